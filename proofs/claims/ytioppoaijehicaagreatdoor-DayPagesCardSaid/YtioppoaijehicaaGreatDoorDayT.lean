/-
  WALKS: dates as text, in the reference.
-/
import Derived.Test.YtioppoaijehicaaGreatDoorDayS
import Derived.ProofKit
set_option linter.all false
namespace Go.Proofs.YtioppoaijehicaaGreatDoor
open Go.RowKit Cal

/-- The last k digits. -/
def digL (n : Nat) : Nat → List UInt8
  | 0 => []
  | k + 1 => UInt8.ofNat (48 + n / 10 ^ k % 10) :: digL n k

theorem digL_len (n : Nat) : ∀ k, (digL n k).length = k
  | 0 => rfl
  | k + 1 => by rw [digL, List.length_cons, digL_len n k]

theorem digL_two {n : Nat} (h : n < 100) : digL n 2 = p2 n := by
  simp only [digL, p2, Nat.pow_one, Nat.pow_zero, Nat.div_one]
  rw [Nat.mod_eq_of_lt (show n / 10 < 10 by omega)]

theorem digL_four {n : Nat} (h : n < 10000) : digL n 4 = p4 n := by
  simp only [digL, p4, Nat.pow_one, Nat.pow_zero, Nat.div_one, show 10 ^ 3 = 1000 from rfl, show 10 ^ 2 = 100 from rfl]
  rw [Nat.mod_eq_of_lt (show n / 1000 < 10 by omega)]

def digS (n k : Nat) : ByteArray := ⟨(digL n k).toArray⟩

theorem digS_size (n k : Nat) : (digS n k).size = k := by show (digL n k).toArray.size = k; simp [digL_len]

theorem digS_succ (n k : Nat) : (⟨#[UInt8.ofNat (48 + n / 10 ^ k % 10)]⟩ : ByteArray) ++ digS n k = digS n (k + 1) := by
  unfold digS
  rw [ByteArray.mk_append_mk]
  simp [digL]

theorem one_byte (W : World) (m g : Nat) (_hm : m < 10) (hg : g = W.heap.size) :
    (convert 104 9 (.slice (some ⟨g, 0, none⟩) 1 1)).run Tryz.prog (W.alloc (.cells #[.int .u8 (48 + (m : Int))] 5)) = .ok (.string ⟨#[UInt8.ofNat (48 + m)]⟩) (W.alloc (.cells #[.int .u8 (48 + (m : Int))] 5)) := by
  subst hg
  have h := run_convert_bytes_arg (P := Tryz.prog) (W.alloc (.cells #[.int .u8 (48 + (m : Int))] 5)) 104 5 Tryz.underlying104 Tryz.underlying5 W.heap.size 0 1 1 [48 + (m : Int)] rfl (fun i hi => by
    have : i = 0 := by omega
    subst this
    exact (Blk.new W 5 _).cell 0) 9 Tryz.underlying9
  rw [h]
  congr 3

def strLen : Value → Nat
  | .string b => b.size
  | _ => 0

set_option maxHeartbeats 1600000 in
set_option maxRecDepth 100000 in
theorem padR_any (n many : Nat) (w : World) (h : n < 10 ^ many) (hm : many ≤ 4) (hp : 1 ≤ many) :
    Calls Tryz.prog 33 #[.int .i64 n, .int .i64 many] w fun e w' => e = .returned (.string (digS n many)) ∧ Below w.heap.size w w' := by
  have hn : n < 10000 := Nat.lt_of_lt_of_le h (Nat.pow_le_pow_right (by omega) hm)
  have H := hide h
  clear h
  go_enter Tryz.func33, Tryz.ntmps33
  go_wp2_with fail
  go_loopw [0, 5] (fun v sv wr => ∃ (k : Nat) (os : Array Obj) (q : Nat), k ≤ many ∧ v = .int .i64 (n / 10 ^ k : Nat) ∧ sv = .string (digS n k) ∧ wr = plus w os q) (fun _ sv _ => many - strLen sv)
  case atStart => exact ⟨0, #[], _, Nat.zero_le _, by simp, rfl, plus_nil.symm⟩
  case round =>
    obtain ⟨k, os, q, hk, rfl, rfl, rfl⟩ := hrel
    have hsz := digS_size n k
    have hnx := digS_succ n k
    by_cases hlt : k < many
    · have hv : n / 10 ^ (k + 1) = n / 10 ^ k / 10 := by rw [Nat.pow_succ, Nat.div_div_eq_div_mul]
      have hvb : n / 10 ^ k ≤ n := Nat.div_le_self _ _
      generalize n / 10 ^ k = v at *
      have hsz2 := digS_size n (k + 1)
      rw [← hnx] at hsz2
      have hcv := one_byte (plus w os q) (v % 10) (w.heap.size + os.size) (by omega) (by rw [plus_size])
      rw [show ((v % 10 : Nat) : Int) = (v : Int) % 10 by omega] at hcv
      generalize digS n k = S at *
      have hS1 : (S.size : Int) = (k : Int) := by rw [hsz]
      have i1 : (k : Int) < (many : Int) := by omega
      rcases Nat.eq_zero_or_pos v with hz | hz
      · subst hz
        rw [show (48 : Int) + ((0 : Nat) : Int) % 10 = 48 by rfl] at hcv
        generalize UInt8.ofNat (48 + 0 % 10) = ch at hcv hnx hsz2
        have HNX := hide hnx
        have HV := hide hv
        have HS2 := hide hsz2
        clear hnx hv hsz2
        go_wp2
        go_roundw
        case rel => exact ⟨k + 1, _, _, hlt, by rw [HV.out]; rfl, by rw [HNX.out], by rw [plus_alloc]⟩
        case measure =>
          show many - ByteArray.size ((⟨#[ch]⟩ : ByteArray) ++ S) < many - S.size
          rw [HS2.out, hsz]
          omega
      · generalize UInt8.ofNat (48 + v % 10) = ch at hcv hnx hsz2
        have HNX := hide hnx
        have HV := hide hv
        have HS2 := hide hsz2
        clear hnx hv hsz2
        have hz2 : (0 : Int) < (v : Int) := by omega
        have v0 : (0 : Int) ≤ (v : Int) := by omega
        have m0 : (0 : Int) ≤ (v : Int) % 10 := by omega
        have m1 : (v : Int) % 10 < 10 := by omega
        go_wp2
        go_roundw
        case rel => exact ⟨k + 1, _, _, hlt, by rw [HV.out]; go_num, by rw [HNX.out], by rw [plus_alloc]⟩
        case measure =>
          show many - ByteArray.size ((⟨#[ch]⟩ : ByteArray) ++ S) < many - S.size
          rw [HS2.out, hsz]
          omega
    · have hkm : k = many := by omega
      have hv0 : n / 10 ^ k = 0 := by rw [hkm]; exact Nat.div_eq_of_lt H.out
      rw [hv0]
      have hS1 : ((digS n k).size : Int) = (k : Int) := by rw [hsz]
      have i1 : ¬ (k : Int) < (many : Int) := by omega
      subst hkm
      clear hnx
      generalize hSS : digS n k = S at *
      have HSS := hide hSS
      clear hSS
      go_wp2
      go_ret
      exact ⟨ret_str HSS.out.symm, (by repeat (first | exact Below.refl _ _ | refine bl_plus ?_ | refine bl_alloc ?_ _ | refine bl_drew ?_))⟩

theorem padR2_any (n : Nat) (w : World) (h : n < 100) :
    Calls Tryz.prog 33 #[.int .i64 n, .int .i64 2] w fun e w' => e = .returned (.string ⟨(p2 n).toArray⟩) ∧ Below w.heap.size w w' := by
  have := padR_any n 2 w h (by omega) (by omega)
  unfold digS at this
  rwa [digL_two h] at this

theorem padR4_any (n : Nat) (w : World) (h : n < 10000) :
    Calls Tryz.prog 33 #[.int .i64 n, .int .i64 4] w fun e w' => e = .returned (.string ⟨(p4 n).toArray⟩) ∧ Below w.heap.size w w' := by
  have := padR_any n 4 w h (by omega) (by omega)
  unfold digS at this
  rwa [digL_four h] at this

set_option maxHeartbeats 1600000 in
theorem dateString_any (d : Int) (w : World) (h0 : 0 ≤ d) (h1 : d ≤ 100000) :
    Calls Tryz.prog 11 #[.int .i64 d] w fun e w' => e = .returned (.string (dateS (parts d))) ∧ Below w.heap.size w w' := by
  have HD := hide (fun w => parts_any d w (by omega) (by omega))
  have hy := year_top h0 h1
  obtain ⟨p1, p2', p3, p4'⟩ := (parts_ok d).1
  have hml := mlen_bd (parts d).y (parts d).m
  generalize parts d = P at *
  obtain ⟨y, m, dd⟩ := P
  simp only at *
  obtain ⟨Y, rfl⟩ : ∃ Y : Nat, y = Y := ⟨y.toNat, by omega⟩
  obtain ⟨M, rfl⟩ : ∃ M : Nat, m = M := ⟨m.toNat, by omega⟩
  obtain ⟨D, rfl⟩ : ∃ D : Nat, dd = D := ⟨dd.toNat, by omega⟩
  have hX : dateS ⟨Y, M, D⟩ = ⟨(p4 Y).toArray⟩ ++ ⟨#[45]⟩ ++ ⟨(p2 M).toArray⟩ ++ ⟨#[45]⟩ ++ ⟨(p2 D).toArray⟩ := rfl
  have HX := hide hX
  have H4 := hide (fun w => padR4_any Y w (by omega))
  have HM := hide (fun w => padR2_any M w (by omega))
  have HDD := hide (fun w => padR2_any D w (by omega))
  have s4 : (ByteArray.mk (p4 Y).toArray).size = 4 := rfl
  have s2 : (ByteArray.mk (p2 M).toArray).size = 2 := rfl
  have s3 : (ByteArray.mk (p2 D).toArray).size = 2 := rfl
  clear hX
  generalize dateS ⟨Y, M, D⟩ = X at *
  generalize (⟨(p4 Y).toArray⟩ : ByteArray) = A at *
  generalize (⟨(p2 M).toArray⟩ : ByteArray) = B at *
  generalize (⟨(p2 D).toArray⟩ : ByteArray) = C at *
  have t1 : (A.size : Int) ≤ 4 := by omega
  have t2 : (B.size : Int) ≤ 2 := by omega
  have t3 : (C.size : Int) ≤ 2 := by omega
  have u1 : ((A ++ (⟨#[45]⟩ : ByteArray)).size : Int) ≤ 10 := by rw [ByteArray.size_append]; have : (ByteArray.mk #[45]).size = 1 := rfl; omega
  have u2 : ((A ++ (⟨#[45]⟩ : ByteArray) ++ B).size : Int) ≤ 20 := by rw [ByteArray.size_append]; omega
  have u3 : ((A ++ (⟨#[45]⟩ : ByteArray) ++ B ++ (⟨#[45]⟩ : ByteArray)).size : Int) ≤ 30 := by rw [ByteArray.size_append]; have : (ByteArray.mk #[45]).size = 1 := rfl; omega
  clear s4 s2 s3
  go_enter Tryz.func11, Tryz.ntmps11
  go_wp2_with (first
    | (go_at_call 32; refine (HD.out _).mono ?_; rintro e w' ⟨rfl, rfl⟩)
    | (go_at_call 33; (first
        | (with_reducible refine Calls.mono (H4.out _) ?_)
        | (with_reducible refine Calls.mono (HM.out _) ?_)
        | (with_reducible refine Calls.mono (HDD.out _) ?_)); rintro e w' ⟨rfl, hbl⟩; obtain ⟨os2, n2, rfl⟩ := below_plus hbl; clear hbl))
  go_ret
  exact ⟨ret_str HX.out.symm, (by repeat (first | exact Below.refl _ _ | refine bl_plus ?_ | refine bl_alloc ?_ _ | refine bl_drew ?_))⟩

end Go.Proofs.YtioppoaijehicaaGreatDoor
