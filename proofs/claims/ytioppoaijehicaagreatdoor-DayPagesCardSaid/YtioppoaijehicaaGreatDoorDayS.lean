/-
  WALKS: dates as text, in the program and in the reference.
-/
import Derived.Test.YtioppoaijehicaaGreatDoorDayM
import Derived.Test.YtioppoaijehicaaGreatDoorLayA
import Derived.Lib.ItoaMem
set_option linter.all false
namespace Go.Proofs.YtioppoaijehicaaGreatDoor
open Go.RowKit Cal
attribute [local go_sem high] run_max_i run_min_i

theorem ret_str {a b : ByteArray} (h : a = b) : Ending.returned (.string a) = .returned (.string b) := by rw [h]

/-! ### Digits -/

def p2 (n : Nat) : List UInt8 := [UInt8.ofNat (48 + n / 10), UInt8.ofNat (48 + n % 10)]

def p4 (n : Nat) : List UInt8 := [UInt8.ofNat (48 + n / 1000), UInt8.ofNat (48 + n / 100 % 10), UInt8.ofNat (48 + n / 10 % 10), UInt8.ofNat (48 + n % 10)]

theorem dec_two {n : Nat} (h : n < 100) (h1 : ¬ n < 10) : Lib.decDigits n = p2 n := Lib.decDigits_two h1 h

theorem dec_one {n : Nat} (h : n < 10) : (48 : UInt8) :: Lib.decDigits n = p2 n := by
  rw [Lib.decDigits_one h, p2, show n / 10 = 0 by omega, show n % 10 = n by omega]
  rfl

theorem dec_four {n : Nat} (h : 1000 ≤ n) (h1 : n < 10000) : Lib.decDigits n = p4 n := by
  rw [Lib.decDigits, dif_neg (by omega), Lib.decDigits, dif_neg (by omega), Lib.decDigits_two (by omega) (by omega)]
  simp only [List.cons_append, List.nil_append, p4, Nat.div_div_eq_div_mul, Nat.reduceMul]

set_option maxHeartbeats 800000 in
theorem padded2_any (n : Nat) (w : World) (h : n < 100) :
    Calls Tryz.prog 56 #[.int .i64 n, .int .i64 2] w fun e w' => e = .returned (.string ⟨(p2 n).toArray⟩) ∧ w = w' := by
  have HI := hide (fun w => Tryz.itoa_small n h w)
  by_cases h1 : n < 10
  · have hS : (ByteArray.mk (Lib.decDigits n).toArray).size = 1 := by rw [Lib.decDigits_one h1]; rfl
    have hE : (⟨#[48]⟩ : ByteArray) ++ ⟨(Lib.decDigits n).toArray⟩ = ⟨(p2 n).toArray⟩ := by rw [← dec_one h1, ByteArray.mk_append_mk]; simp
    generalize (⟨(Lib.decDigits n).toArray⟩ : ByteArray) = S at *
    have HE := hide hE
    have hS1 : (S.size : Int) = 1 := by rw [hS]; rfl
    clear hE
    go_enter Tryz.func56, Tryz.ntmps56
    go_wp2_with (first
      | (go_at_call 91; refine (HI.out _).mono ?_; rintro e w' ⟨rfl, rfl⟩)
      | (go_at_call 92; refine (Tryz.repeat_one _ _).mono ?_; rintro e w' ⟨rfl, rfl⟩))
    go_ret
    exact ⟨ret_str HE.out, rfl⟩
  · have hS : (ByteArray.mk (Lib.decDigits n).toArray).size = 2 := by rw [dec_two h h1]; rfl
    have hE : (⟨#[]⟩ : ByteArray) ++ ⟨(Lib.decDigits n).toArray⟩ = ⟨(p2 n).toArray⟩ := by rw [← dec_two h h1, ByteArray.mk_append_mk]; simp
    generalize (⟨(Lib.decDigits n).toArray⟩ : ByteArray) = S at *
    have HE := hide hE
    have hS1 : (S.size : Int) = 2 := by rw [hS]; rfl
    clear hE
    go_enter Tryz.func56, Tryz.ntmps56
    go_wp2_with (first
      | (go_at_call 91; refine (HI.out _).mono ?_; rintro e w' ⟨rfl, rfl⟩)
      | (go_at_call 92; refine (Tryz.repeat_zero _ _).mono ?_; rintro e w' ⟨rfl, rfl⟩))
    go_ret
    exact ⟨ret_str HE.out, rfl⟩

set_option maxHeartbeats 800000 in
theorem padded4_any (n : Nat) (w : World) (h : 1000 ≤ n) (h1 : n < 10000) (ht : PowTab w) :
    Calls Tryz.prog 56 #[.int .i64 n, .int .i64 4] w fun e w' => e = .returned (.string ⟨(p4 n).toArray⟩) ∧ Below w.heap.size w w' := by
  have hi := Tryz.itoa_any n (by omega) (by omega) w ht
  rw [Lib.itoa_nonneg, dec_four h h1] at hi
  have HI := hide hi
  have hS : (ByteArray.mk (p4 n).toArray).size = 4 := rfl
  have hE : (⟨#[]⟩ : ByteArray) ++ ⟨(p4 n).toArray⟩ = ⟨(p4 n).toArray⟩ := by rw [ByteArray.mk_append_mk]; simp
  clear hi ht
  generalize (⟨(p4 n).toArray⟩ : ByteArray) = S at *
  have HE := hide hE
  have hS1 : (S.size : Int) = 4 := by rw [hS]; rfl
  clear hE
  go_enter Tryz.func56, Tryz.ntmps56
  go_wp2_with (first
    | (go_at_call 91; refine HI.out.mono ?_; rintro e w' ⟨rfl, os1, n1, rfl⟩)
    | (go_at_call 92; refine (Tryz.repeat_zero _ _).mono ?_; rintro e w' ⟨rfl, rfl⟩))
  go_ret
  exact ⟨ret_str HE.out, (by repeat (first | exact Below.refl _ _ | refine bl_plus ?_ | refine bl_alloc ?_ _ | refine bl_drew ?_))⟩

/-- A date as text. -/
def dateS (P : Date) : ByteArray := ⟨(p4 P.y.toNat).toArray⟩ ++ ⟨#[45]⟩ ++ ⟨(p2 P.m.toNat).toArray⟩ ++ ⟨#[45]⟩ ++ ⟨(p2 P.d.toNat).toArray⟩

theorem gPow : Tryz.prog.globalNamed powName = some 0 := by kernel_rfl

theorem powTab_below {w w' : World} (h : PowTab w) (hb : Below w.heap.size w w') : PowTab w' := by
  unfold PowTab Lib.TabIs at *
  unfold World.var? at *
  rw [gPow] at *
  simp only [Option.bind_some] at *
  have hlt : 0 < w.heap.size := by
    rcases Nat.lt_or_ge 0 w.heap.size with hh | hh
    · exact hh
    · rw [Array.getElem?_eq_none hh] at h; cases h
  rw [hb.block _ hlt]
  exact h

set_option maxHeartbeats 1600000 in
theorem dateText_no (d : Int) (w : World) (h : d < 0 ∨ 100000 < d) :
    Calls Tryz.prog 22 #[.int .i64 d] w fun e w' => e = .returned (.tuple #[.string ⟨#[]⟩, .int .i64 2]) ∧ Below w.heap.size w w' := by
  have HD := hide (fun w => dateOfDay_no d w h)
  clear h
  go_enter Tryz.func22, Tryz.ntmps22
  go_wp2_with (go_at_call 55; refine (HD.out _).mono ?_; rintro e w' ⟨rfl, hbl⟩; obtain ⟨os1, n1, rfl⟩ := below_plus hbl; clear hbl)
  go_ret2
  exact ⟨rfl, (by repeat (first | exact Below.refl _ _ | refine bl_plus ?_ | refine bl_alloc ?_ _ | refine bl_drew ?_))⟩

set_option maxHeartbeats 1600000 in
theorem dateText_any (d : Int) (w : World) (h0 : 0 ≤ d) (h1 : d ≤ 100000) (ht : PowTab w) :
    Calls Tryz.prog 22 #[.int .i64 d] w fun e w' => e = .returned (.tuple #[.string (dateS (parts d)), .int .i64 0]) ∧ Below w.heap.size w w' := by
  have HD := hide (fun w => dateOfDay_any d w h0 h1)
  have hy := year_top h0 h1
  obtain ⟨p1, p2', p3, p4'⟩ := (parts_ok d).1
  have hml := mlen_bd (parts d).y (parts d).m
  have HT := hide ht
  clear ht
  generalize parts d = P at *
  obtain ⟨y, m, dd⟩ := P
  simp only at *
  obtain ⟨Y, rfl⟩ : ∃ Y : Nat, y = Y := ⟨y.toNat, by omega⟩
  obtain ⟨M, rfl⟩ : ∃ M : Nat, m = M := ⟨m.toNat, by omega⟩
  obtain ⟨D, rfl⟩ : ∃ D : Nat, dd = D := ⟨dd.toNat, by omega⟩
  have hX : dateS ⟨Y, M, D⟩ = ⟨(p4 Y).toArray⟩ ++ ⟨#[45]⟩ ++ ⟨(p2 M).toArray⟩ ++ ⟨#[45]⟩ ++ ⟨(p2 D).toArray⟩ := rfl
  have HX := hide hX
  have H4 := hide (fun w ht => padded4_any Y w (by omega) (by omega) ht)
  have HM := hide (fun w => padded2_any M w (by omega))
  have HDD := hide (fun w => padded2_any D w (by omega))
  have s4 : (ByteArray.mk (p4 Y).toArray).size = 4 := rfl
  have s2 : (ByteArray.mk (p2 M).toArray).size = 2 := rfl
  have s3 : (ByteArray.mk (p2 D).toArray).size = 2 := rfl
  clear hX
  generalize dateS ⟨Y, M, D⟩ = X at *
  generalize (⟨(p4 Y).toArray⟩ : ByteArray) = A at *
  generalize (⟨(p2 M).toArray⟩ : ByteArray) = B at *
  generalize (⟨(p2 D).toArray⟩ : ByteArray) = C at *
  have t1 : (A.size : Int) ≤ 4 := by omega
  have t2 : (B.size : Int) ≤ 2 := by omega
  have t3 : (C.size : Int) ≤ 2 := by omega
  have u1 : ((A ++ (⟨#[45]⟩ : ByteArray)).size : Int) ≤ 10 := by rw [ByteArray.size_append]; have : (ByteArray.mk #[45]).size = 1 := rfl; omega
  have u2 : ((A ++ (⟨#[45]⟩ : ByteArray) ++ B).size : Int) ≤ 20 := by rw [ByteArray.size_append]; omega
  have u3 : ((A ++ (⟨#[45]⟩ : ByteArray) ++ B ++ (⟨#[45]⟩ : ByteArray)).size : Int) ≤ 30 := by rw [ByteArray.size_append]; have : (ByteArray.mk #[45]).size = 1 := rfl; omega
  clear s4 s2 s3
  go_enter Tryz.func22, Tryz.ntmps22
  go_wp2_with (first
    | (go_at_call 55; refine (HD.out _).mono ?_; rintro e w' ⟨rfl, hbl⟩; obtain ⟨os1, n1, rfl⟩ := below_plus hbl; clear hbl)
    | (go_at_call 56; first
        | (with_reducible refine Calls.mono (H4.out _ (powTab_below HT.out (by repeat (first | exact Below.refl _ _ | refine bl_plus ?_ | refine bl_alloc ?_ _ | refine bl_drew ?_)))) ?_; rintro e w' ⟨rfl, hbl⟩; obtain ⟨os2, n2, rfl⟩ := below_plus hbl; clear hbl)
        | (with_reducible refine Calls.mono (HM.out _) ?_; rintro e w' ⟨rfl, rfl⟩)
        | (with_reducible refine Calls.mono (HDD.out _) ?_; rintro e w' ⟨rfl, rfl⟩)))
  go_ret2
  rw [HX.out]
  exact ⟨rfl, (by repeat (first | exact Below.refl _ _ | refine bl_plus ?_ | refine bl_alloc ?_ _ | refine bl_drew ?_))⟩

end Go.Proofs.YtioppoaijehicaaGreatDoor
