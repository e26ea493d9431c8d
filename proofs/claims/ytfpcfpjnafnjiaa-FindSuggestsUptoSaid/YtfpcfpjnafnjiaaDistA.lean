/-
  WALKS: one step of the distance.
-/
import Derived.Test.YtfpcfpjnafnjiaaRowI
import Derived.Test.YtfpcfpjnafnjiaaOsa
import Derived.Deep.DeepCutAuto
set_option linter.all false
namespace Go.Proofs.Ytfpcfpjnafnjiaa
open Go.RowKit
attribute [local go_sem high] run_min_i run_max_i

/-- The bytes of a string, one each place. -/
def sb (s : ByteArray) (i : Nat) : UInt8 := if h : i < s.size then s[i] else 0
theorem sb_at {s : ByteArray} {i : Nat} (h : i < s.size) : sb s i = s[i] := dif_pos h

def QuietInt (r : Int) (w : World) (e : Ending) (w' : World) : Prop := e = .returned (.int .i64 r) ∧ ∃ n, w' = w.drewN n

set_option maxHeartbeats 800000 in
set_option maxRecDepth 100000 in
theorem step_0 (a b : ByteArray) (i far : Int) (s4 s5 s6 : Value) (w : World) :
    Calls Try.prog 33 #[.string a, .string b, .int .i64 i, .int .i64 0, s4, s5, s6, .int .i64 far] w (QuietInt (min i far) w) := by
  go_enter Try.func33, Try.ntmps33
  go_wp2
  go_ret
  exact ⟨rfl, 0, rfl⟩

theorem byte_cases (u v : UInt8) : (u = v ∧ ((u.toNat : Int) == (v.toNat : Int)) = true) ∨ (u ≠ v ∧ ((u.toNat : Int) == (v.toNat : Int)) = false) := by
  by_cases h : u = v
  · exact .inl ⟨h, by simp [h]⟩
  · refine .inr ⟨h, ?_⟩
    have : u.toNat ≠ v.toNat := fun e => h (UInt8.toNat_inj.1 e)
    simp; omega
def ch (u v : UInt8) : Int := if u = v then 0 else 1

set_option maxHeartbeats 6400000 in
set_option maxRecDepth 100000 in
theorem step_3 (a b : ByteArray) (p q : Nat) (gb gl gn N : Nat) (x0 x1 y z far : Int) (w : World) (hp : p + 1 < a.size) (hq : q + 1 < b.size) (hN : q + 2 < N) (ha : a.size ≤ 10000000) (hb : b.size ≤ 10000000)
    (h1 : w.cell? ⟨gl, q + 2, none⟩ = some (.int .i64 x1)) (h2 : w.cell? ⟨gl, q + 1, none⟩ = some (.int .i64 x0)) (h3 : w.cell? ⟨gn, q + 1, none⟩ = some (.int .i64 y)) (h4 : w.cell? ⟨gb, q, none⟩ = some (.int .i64 z))
    (b1 : 0 ≤ x1 ∧ x1 ≤ 20000000) (b2 : 0 ≤ x0 ∧ x0 ≤ 20000000) (b3 : 0 ≤ y ∧ y ≤ 20000000) (b4 : 0 ≤ z ∧ z ≤ 20000000) :
    Calls Try.prog 33 #[.string a, .string b, .int .i64 (p + 2), .int .i64 (q + 2), .slice (some ⟨gb, 0, none⟩) N N, .slice (some ⟨gl, 0, none⟩) N N, .slice (some ⟨gn, 0, none⟩) N N, .int .i64 far] w
      (QuietInt (min (if a[p + 1] = b[q] ∧ a[p] = b[q + 1] then min (min (min x1 y + 1) (x0 + ch a[p + 1] b[q + 1])) (z + 1) else min (min x1 y + 1) (x0 + ch a[p + 1] b[q + 1])) far) w) := by
  have hN' : (q : Int) + 2 < (N : Int) := by omega
  have ha' : (p : Int) + 1 < (a.size : Int) := by omega
  have hb' : (q : Int) + 1 < (b.size : Int) := by omega
  obtain ⟨b10, b11⟩ := b1
  obtain ⟨b20, b21⟩ := b2
  obtain ⟨b30, b31⟩ := b3
  obtain ⟨b40, b41⟩ := b4
  have w1 : IntKind.i64.wrap ((p : Int) + 2 - 1) = p + 1 := by rw [IntKind.wrap_i64]; omega
  have w2 : IntKind.i64.wrap ((q : Int) + 2 - 1) = q + 1 := by rw [IntKind.wrap_i64]; omega
  have w3 : IntKind.i64.wrap ((p : Int) + 2 - 2) = p := by rw [IntKind.wrap_i64]; omega
  have w4 : IntKind.i64.wrap ((q : Int) + 2 - 2) = q := by rw [IntKind.wrap_i64]; omega
  have t1 : ((p : Int) + 1).toNat = p + 1 := by omega
  have t2 : ((q : Int) + 1).toNat = q + 1 := by omega
  have g1 : (0 : Int) ≤ (p : Int) + 1 := by omega
  have g2 : (0 : Int) ≤ (q : Int) + 1 := by omega
  have g3 : (p : Int) < (a.size : Int) := by omega
  have g4 : (q : Int) < (b.size : Int) := by omega
  have gt1 : decide ((1 : Int) < (p : Int) + 2) = true := by simp; omega
  have gt2 : decide ((1 : Int) < (q : Int) + 2) = true := by simp; omega
  generalize hR : (min (if a[p + 1] = b[q] ∧ a[p] = b[q + 1] then min (min (min x1 y + 1) (x0 + ch a[p + 1] b[q + 1])) (z + 1) else min (min x1 y + 1) (x0 + ch a[p + 1] b[q + 1])) far) = R
  unfold ch at hR
  rcases byte_cases a[p + 1] b[q + 1] with ⟨e1, f1⟩ | ⟨e1, f1⟩ <;> rcases byte_cases a[p + 1] b[q] with ⟨e2, f2⟩ | ⟨e2, f2⟩ <;> rcases byte_cases a[p] b[q + 1] with ⟨e3, f3⟩ | ⟨e3, f3⟩
  all_goals
    first | rw [if_pos (And.intro e2 e3)] at hR | rw [if_neg (fun h => e2 h.1)] at hR | rw [if_neg (fun h => e3 h.2)] at hR
    first | rw [if_pos e1] at hR | rw [if_neg e1] at hR
    have HR := hide hR
    clear hR e1 e2 e3
    go_enter Try.func33, Try.ntmps33
    go_wp2_with fail
    go_quiet (fail)
    go_wp2_with fail
    go_quiet (fail)
    go_wp2_with fail
    go_quiet (fail)
    go_wp2
    go_ret
    exact ⟨ret_int (by have := HR.out; omega), _, rfl⟩

set_option maxHeartbeats 6400000 in
set_option maxRecDepth 100000 in
theorem step_1 (a b : ByteArray) (q : Nat) (gl gn N : Nat) (s4 : Value) (x0 x1 y far : Int) (w : World) (hp : 0 < a.size) (hq : q < b.size) (hN : q + 1 < N) (hb : b.size ≤ 10000000)
    (h1 : w.cell? ⟨gl, q + 1, none⟩ = some (.int .i64 x1)) (h2 : w.cell? ⟨gl, q, none⟩ = some (.int .i64 x0)) (h3 : w.cell? ⟨gn, q, none⟩ = some (.int .i64 y))
    (b1 : 0 ≤ x1 ∧ x1 ≤ 20000000) (b2 : 0 ≤ x0 ∧ x0 ≤ 20000000) (b3 : 0 ≤ y ∧ y ≤ 20000000) :
    Calls Try.prog 33 #[.string a, .string b, .int .i64 1, .int .i64 (q + 1), s4, .slice (some ⟨gl, 0, none⟩) N N, .slice (some ⟨gn, 0, none⟩) N N, .int .i64 far] w
      (QuietInt (min (min (min x1 y + 1) (x0 + ch a[0] b[q])) far) w) := by
  have hN' : (q : Int) + 1 < (N : Int) := by omega
  have ha' : (0 : Int) < (a.size : Int) := by omega
  have hb' : (q : Int) < (b.size : Int) := by omega
  obtain ⟨b10, b11⟩ := b1
  obtain ⟨b20, b21⟩ := b2
  obtain ⟨b30, b31⟩ := b3
  have w2 : IntKind.i64.wrap ((q : Int) + 1 - 1) = q := by rw [IntKind.wrap_i64]; omega
  have t2 : ((q : Int) + 1).toNat = q + 1 := by omega
  have g2 : (0 : Int) ≤ (q : Int) + 1 := by omega
  generalize hR : (min (min (min x1 y + 1) (x0 + ch a[0] b[q])) far) = R
  unfold ch at hR
  rcases byte_cases a[0] b[q] with ⟨e1, f1⟩ | ⟨e1, f1⟩
  all_goals
    first | rw [if_pos e1] at hR | rw [if_neg e1] at hR
    have HR := hide hR
    clear hR e1
    go_enter Try.func33, Try.ntmps33
    go_wp2_with fail
    go_quiet (fail)
    go_wp2_with fail
    go_quiet (fail)
    go_wp2_with fail
    go_quiet (fail)
    go_wp2
    go_ret
    exact ⟨ret_int (by have := HR.out; omega), _, rfl⟩

set_option maxHeartbeats 6400000 in
set_option maxRecDepth 100000 in
theorem step_2 (a b : ByteArray) (p : Nat) (gl gn N : Nat) (s4 : Value) (x0 x1 y far : Int) (w : World) (hp : p + 1 < a.size) (hq : 0 < b.size) (hN : 1 < N) (ha : a.size ≤ 10000000)
    (h1 : w.cell? ⟨gl, 1, none⟩ = some (.int .i64 x1)) (h2 : w.cell? ⟨gl, 0, none⟩ = some (.int .i64 x0)) (h3 : w.cell? ⟨gn, 0, none⟩ = some (.int .i64 y))
    (b1 : 0 ≤ x1 ∧ x1 ≤ 20000000) (b2 : 0 ≤ x0 ∧ x0 ≤ 20000000) (b3 : 0 ≤ y ∧ y ≤ 20000000) :
    Calls Try.prog 33 #[.string a, .string b, .int .i64 (p + 2), .int .i64 1, s4, .slice (some ⟨gl, 0, none⟩) N N, .slice (some ⟨gn, 0, none⟩) N N, .int .i64 far] w
      (QuietInt (min (min (min x1 y + 1) (x0 + ch a[p + 1] b[0])) far) w) := by
  have hN' : (1 : Int) < (N : Int) := by omega
  have hN2 : (0 : Int) < (N : Int) := by omega
  have ha' : (p : Int) + 1 < (a.size : Int) := by omega
  have hb' : (0 : Int) < (b.size : Int) := by omega
  obtain ⟨b10, b11⟩ := b1
  obtain ⟨b20, b21⟩ := b2
  obtain ⟨b30, b31⟩ := b3
  have w1 : IntKind.i64.wrap ((p : Int) + 2 - 1) = p + 1 := by rw [IntKind.wrap_i64]; omega
  have t1 : ((p : Int) + 1).toNat = p + 1 := by omega
  have g1 : (0 : Int) ≤ (p : Int) + 1 := by omega
  have gt1 : decide ((1 : Int) < (p : Int) + 2) = true := by simp; omega
  generalize hR : (min (min (min x1 y + 1) (x0 + ch a[p + 1] b[0])) far) = R
  unfold ch at hR
  rcases byte_cases a[p + 1] b[0] with ⟨e1, f1⟩ | ⟨e1, f1⟩
  all_goals
    first | rw [if_pos e1] at hR | rw [if_neg e1] at hR
    have HR := hide hR
    clear hR e1
    go_enter Try.func33, Try.ntmps33
    go_wp2_with fail
    go_quiet (fail)
    go_wp2_with fail
    go_quiet (fail)
    go_wp2_with fail
    go_quiet (fail)
    go_wp2
    go_ret
    exact ⟨ret_int (by have := HR.out; omega), _, rfl⟩

end Go.Proofs.Ytfpcfpjnafnjiaa
