/-
  WALKS: Alike of values, and of lists of properties, that read alike.
-/
import Derived.Test.YtdncmjlakmkfiaaGreatDoorCpv
set_option linter.all false
namespace Go.Proofs.YtdncmjlakmkfiaaGreatDoor
open Go.RowKit Go.Lib

def AlikeUpTo (n : Nat) : Prop := ∀ (v : V), SizeOf.sizeOf v < n → ∀ (A B : Option Addr) (c c' : Nat) (w : World), LAt w A v.l → LAt w B v.l →
  Calls Tryz.prog 19 #[v.arg A c, v.arg B c'] w fun e w' => e = .returned (.bool true) ∧ Below w.heap.size w w'

set_option maxHeartbeats 3200000 in
set_option maxRecDepth 100000 in
theorem equalVals_of (N : Nat) (hN : AlikeUpTo N) (A B : Option Addr) (c d : Nat) (l : List V) (w : World) (hA : LAt w A l) (hB : LAt w B l) (hl : ∀ x ∈ l, SizeOf.sizeOf x < N) :
    Calls Tryz.prog 69 #[.slice A l.length c, .slice B l.length d, .func (.func 19) #[] #[]] w fun e w' => e = .returned (.bool true) ∧ Below w.heap.size w w' := by
  have hm := hA.1
  unfold maxLen at hm
  have HA := hide hA
  have HB := hide hB
  have HL := hide hl
  have HN := hide hN
  clear hA hB hl hN
  go_enter Tryz.func69, Tryz.ntmps69
  go_wp2
  go_loopw [17] (fun i wr => ∃ (k : Nat) (os : Array Obj) (n : Nat), k ≤ l.length ∧ i = .int .i64 k ∧ wr = plus w os n) (fun i _ => l.length - (intOf i).toNat)
  case atStart => exact ⟨0, #[], _, Nat.zero_le _, rfl, plus_nil.symm⟩
  case round =>
    obtain ⟨k, os, n, hk, rfl, rfl⟩ := hrel
    by_cases hlt : k < l.length
    · obtain ⟨b, o, rfl, hb, hv⟩ := HA.out.2 (by omega)
      obtain ⟨b2, o2, rfl, hb2, hv2⟩ := HB.out.2 (by omega)
      obtain ⟨c0, c1, c2, c3, A2, e2, c4, hL1⟩ := VAt_iff.1 (hv k hlt)
      obtain ⟨d0, d1, d2, d3, B2, f2, d4, hL2⟩ := VAt_iff.1 (hv2 k hlt)
      have HC := hide (fun W (hbw : Below w.heap.size w W) => HN.out l[k] (HL.out _ (List.getElem_mem hlt)) A2 B2 e2 f2 W (hL1.below hbw) (hL2.below hbw))
      clear hv hv2 hL1 hL2
      generalize l[k] = x at *
      obtain ⟨xk, xi, xt, xs, xl⟩ := x
      simp only [V.arg, V.k, V.i, V.t, V.s, V.l] at *
      go_wp2_with (go_at_call 19; refine (HC.out _ ?hbw).mono ?_; (case hbw => repeat (first | exact Below.refl _ _ | refine bl_plus ?_ | refine bl_alloc ?_ _ | refine bl_drew ?_ | refine bl_drewN ?_ _)); rintro e w' ⟨rfl, hbl⟩; obtain ⟨os1, n1, rfl⟩ := below_plus hbl; clear hbl)
      go_roundw
      case rel => exact ⟨k + 1, _, _, hlt, by go_num, by first | rfl | (simp only [plus_alloc, plus_plus, plus_drewN, plus_drew]; rfl)⟩
      case measure => simp [intOf]; omega
    · have hkl : k = l.length := by omega
      subst hkl
      go_wp2
      go_ret
      exact ⟨rfl, (by repeat (first | exact Below.refl _ _ | refine bl_plus ?_ | refine bl_alloc ?_ _ | refine bl_drew ?_ | refine bl_drewN ?_ _))⟩

set_option maxHeartbeats 3200000 in
set_option maxRecDepth 100000 in
theorem alikeValue_step (N : Nat) (hN : AlikeUpTo N) : AlikeUpTo (N + 1) := by
  intro v hv A B c c' w hA hB
  have hl : ∀ x ∈ v.l, SizeOf.sizeOf x < N := by
    intro x hx
    have h1 := List.sizeOf_lt_of_mem hx
    obtain ⟨k, i, t, s, l⟩ := v
    simp only [V.mk.sizeOf_spec, V.l] at hv h1
    omega
  have HE := hide (fun W (hbw : Below w.heap.size w W) => equalVals_of N hN A B c c' v.l W (hA.below hbw) (hB.below hbw) hl)
  clear hl hv hA hB hN
  obtain ⟨k, i, t, s, l⟩ := v
  simp only [V.arg, V.k, V.i, V.t, V.s, V.l] at *
  go_enter Tryz.func19, Tryz.ntmps19
  go_wp2_with (go_at_call 69; refine (HE.out _ ?hbw).mono ?_; (case hbw => repeat (first | exact Below.refl _ _ | refine bl_plus ?_ | refine bl_alloc ?_ _ | refine bl_drew ?_ | refine bl_drewN ?_ _)); rintro e w' ⟨rfl, hbl⟩; obtain ⟨os1, n1, rfl⟩ := below_plus hbl; clear hbl)
  go_ret
  exact ⟨rfl, (by repeat (first | exact Below.refl _ _ | refine bl_plus ?_ | refine bl_alloc ?_ _ | refine bl_drew ?_ | refine bl_drewN ?_ _))⟩

theorem alikeValue_upTo : ∀ N, AlikeUpTo N
  | 0 => fun v hv => absurd hv (by omega)
  | N + 1 => alikeValue_step N (alikeValue_upTo N)

theorem alikeValue_same (v : V) (A B : Option Addr) (c c' : Nat) (w : World) (hA : LAt w A v.l) (hB : LAt w B v.l) :
    Calls Tryz.prog 19 #[v.arg A c, v.arg B c'] w fun e w' => e = .returned (.bool true) ∧ Below w.heap.size w w' :=
  alikeValue_upTo (SizeOf.sizeOf v + 1) v (by omega) A B c c' w hA hB

set_option maxHeartbeats 3200000 in
set_option maxRecDepth 100000 in
theorem alikeProp_same (n : ByteArray) (v : V) (A B : Option Addr) (c c' : Nat) (w : World) (hA : LAt w A v.l) (hB : LAt w B v.l) :
    Calls Tryz.prog 21 #[.agg #[.string n, .int .i64 v.k, .int .i64 v.i, .int .i64 v.t, .string v.s, .slice A v.l.length c], .agg #[.string n, .int .i64 v.k, .int .i64 v.i, .int .i64 v.t, .string v.s, .slice B v.l.length c']] w fun e w' => e = .returned (.bool true) ∧ Below w.heap.size w w' := by
  have HE := hide (fun W (hbw : Below w.heap.size w W) => alikeValue_same v A B c c' W (hA.below hbw) (hB.below hbw))
  clear hA hB
  obtain ⟨k, i, t, s, l⟩ := v
  simp only [V.arg, V.k, V.i, V.t, V.s, V.l] at *
  go_enter Tryz.func21, Tryz.ntmps21
  go_wp2_with (go_at_call 19; refine (HE.out _ ?hbw).mono ?_; (case hbw => repeat (first | exact Below.refl _ _ | refine bl_plus ?_ | refine bl_alloc ?_ _ | refine bl_drew ?_ | refine bl_drewN ?_ _)); rintro e w' ⟨rfl, hbl⟩; obtain ⟨os1, n1, rfl⟩ := below_plus hbl; clear hbl)
  go_ret
  exact ⟨rfl, (by repeat (first | exact Below.refl _ _ | refine bl_plus ?_ | refine bl_alloc ?_ _ | refine bl_drew ?_ | refine bl_drewN ?_ _))⟩

set_option maxHeartbeats 3200000 in
set_option maxRecDepth 100000 in
theorem equalProps_same (A B : Option Addr) (c d : Nat) (l : List PR) (w : World) (hA : PsAt w A l) (hB : PsAt w B l) :
    Calls Tryz.prog 20 #[.slice A l.length c, .slice B l.length d, .func (.func 21) #[] #[]] w fun e w' => e = .returned (.bool true) ∧ Below w.heap.size w w' := by
  have hm := hA.1
  unfold maxLen at hm
  have HA := hide hA
  have HB := hide hB
  clear hA hB
  go_enter Tryz.func20, Tryz.ntmps20
  go_wp2
  go_loopw [17] (fun i wr => ∃ (k : Nat) (os : Array Obj) (n : Nat), k ≤ l.length ∧ i = .int .i64 k ∧ wr = plus w os n) (fun i _ => l.length - (intOf i).toNat)
  case atStart => exact ⟨0, #[], _, Nat.zero_le _, rfl, plus_nil.symm⟩
  case round =>
    obtain ⟨k, os, n, hk, rfl, rfl⟩ := hrel
    by_cases hlt : k < l.length
    · obtain ⟨b, o, rfl, hb, hv⟩ := HA.out.2 (by omega)
      obtain ⟨b2, o2, rfl, hb2, hv2⟩ := HB.out.2 (by omega)
      obtain ⟨c0, -, c1, c2, c3, c4, A2, e2, c5, hL1⟩ := (hv k hlt).cells
      obtain ⟨d0, -, d1, d2, d3, d4, B2, f2, d5, hL2⟩ := (hv2 k hlt).cells
      have HC := hide (fun W (hbw : Below w.heap.size w W) => alikeProp_same l[k].n l[k].v A2 B2 e2 f2 W (hL1.below hbw) (hL2.below hbw))
      clear hv hv2 hL1 hL2
      generalize l[k] = x at *
      obtain ⟨xn, ⟨xk, xi, xt, xs, xl⟩⟩ := x
      simp only [V.k, V.i, V.t, V.s, V.l] at *
      go_wp2_with (go_at_call 21; refine (HC.out _ ?hbw).mono ?_; (case hbw => repeat (first | exact Below.refl _ _ | refine bl_plus ?_ | refine bl_alloc ?_ _ | refine bl_drew ?_ | refine bl_drewN ?_ _)); rintro e w' ⟨rfl, hbl⟩; obtain ⟨os1, n1, rfl⟩ := below_plus hbl; clear hbl)
      go_roundw
      case rel => exact ⟨k + 1, _, _, hlt, by go_num, by first | rfl | (simp only [plus_alloc, plus_plus, plus_drewN, plus_drew]; rfl)⟩
      case measure => simp [intOf]; omega
    · have hkl : k = l.length := by omega
      subst hkl
      go_wp2
      go_ret
      exact ⟨rfl, (by repeat (first | exact Below.refl _ _ | refine bl_plus ?_ | refine bl_alloc ?_ _ | refine bl_drew ?_ | refine bl_drewN ?_ _))⟩

theorem as_val_yes (v : Value) (w : World) : (Instr.typeAssert (.iface 24 v) 20 24 true).run Tryz.prog w = .ok (.tuple #[v, .bool true]) w := by kernel_rfl

theorem as_props_no (v : Value) (w : World) : (Instr.typeAssert (.iface 30 v) 20 24 true).run Tryz.prog w = .ok (.tuple #[.agg #[.int .i64 0, .int .i64 0, .int .i64 0, .string ⟨#[]⟩, .slice none 0 0], .bool false]) w := by kernel_rfl

theorem as_props_yes (v : Value) (w : World) : (Instr.typeAssert (.iface 30 v) 20 30 true).run Tryz.prog w = .ok (.tuple #[v, .bool true]) w := by kernel_rfl
attribute [local go_sem ↓] as_val_yes as_props_no as_props_yes

set_option maxHeartbeats 3200000 in
set_option maxRecDepth 100000 in
/-- Alike of two values. -/
theorem alike_value (v : V) (A B : Option Addr) (c c' : Nat) (w : World) (hA : LAt w A v.l) (hB : LAt w B v.l) :
    Calls Tryz.prog 8 #[.iface 24 (v.arg A c), .iface 24 (v.arg B c')] w fun e w' => e = .returned (.bool true) ∧ Below w.heap.size w w' := by
  have HE := hide (fun W (hbw : Below w.heap.size w W) => alikeValue_same v A B c c' W (hA.below hbw) (hB.below hbw))
  clear hA hB
  obtain ⟨k, i, t, s, l⟩ := v
  simp only [V.arg, V.k, V.i, V.t, V.s, V.l] at *
  go_enter Tryz.func8, Tryz.ntmps8
  go_wp2_with (go_at_call 19; refine (HE.out _ ?hbw).mono ?_; (case hbw => repeat (first | exact Below.refl _ _ | refine bl_plus ?_ | refine bl_alloc ?_ _ | refine bl_drew ?_ | refine bl_drewN ?_ _)); rintro e w' ⟨rfl, hbl⟩; obtain ⟨os1, n1, rfl⟩ := below_plus hbl; clear hbl)
  go_ret
  exact ⟨rfl, (by repeat (first | exact Below.refl _ _ | refine bl_plus ?_ | refine bl_alloc ?_ _ | refine bl_drew ?_ | refine bl_drewN ?_ _))⟩

set_option maxHeartbeats 3200000 in
set_option maxRecDepth 100000 in
/-- Alike of two lists of properties. -/
theorem alike_props (A B : Option Addr) (c d : Nat) (l : List PR) (w : World) (hA : PsAt w A l) (hB : PsAt w B l) :
    Calls Tryz.prog 8 #[.iface 30 (.slice A l.length c), .iface 30 (.slice B l.length d)] w fun e w' => e = .returned (.bool true) ∧ Below w.heap.size w w' := by
  have HE := hide (fun W (hbw : Below w.heap.size w W) => equalProps_same A B c d l W (hA.below hbw) (hB.below hbw))
  clear hA hB
  go_enter Tryz.func8, Tryz.ntmps8
  go_wp2_with (go_at_call 20; refine (HE.out _ ?hbw).mono ?_; (case hbw => repeat (first | exact Below.refl _ _ | refine bl_plus ?_ | refine bl_alloc ?_ _ | refine bl_drew ?_ | refine bl_drewN ?_ _)); rintro e w' ⟨rfl, hbl⟩; obtain ⟨os1, n1, rfl⟩ := below_plus hbl; clear hbl)
  go_ret
  exact ⟨rfl, (by repeat (first | exact Below.refl _ _ | refine bl_plus ?_ | refine bl_alloc ?_ _ | refine bl_drew ?_ | refine bl_drewN ?_ _))⟩

end Go.Proofs.YtdncmjlakmkfiaaGreatDoor
