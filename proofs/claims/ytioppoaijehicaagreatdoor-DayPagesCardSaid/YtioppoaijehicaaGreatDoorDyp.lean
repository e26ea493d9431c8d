/-
  PLAIN: a string is read as a day just if it is the day's date.
-/
import Derived.Test.YtioppoaijehicaaGreatDoorDrp
import Derived.Test.YtioppoaijehicaaGreatDoorDayS
set_option linter.all false
namespace Go.Proofs.YtioppoaijehicaaGreatDoor
open Go.RowKit Cal Go.Lib

theorem dec2 (a b : UInt8) (ha : 48 ≤ a.toNat ∧ a.toNat ≤ 57) (hb : 48 ≤ b.toNat ∧ b.toNat ≤ 57) : decFrom 0 [a, b] = some ((a.toNat - 48) * 10 + (b.toNat - 48)) := by
  simp only [decFrom, digitVal, if_pos ha, if_pos hb, Nat.zero_mul, Nat.zero_add]

theorem dec4 (a b c d : UInt8) (ha : 48 ≤ a.toNat ∧ a.toNat ≤ 57) (hb : 48 ≤ b.toNat ∧ b.toNat ≤ 57) (hc : 48 ≤ c.toNat ∧ c.toNat ≤ 57) (hd : 48 ≤ d.toNat ∧ d.toNat ≤ 57) : decFrom 0 [a, b, c, d] = some ((((a.toNat - 48) * 10 + (b.toNat - 48)) * 10 + (c.toNat - 48)) * 10 + (d.toNat - 48)) := by
  simp only [decFrom, digitVal, if_pos ha, if_pos hb, if_pos hc, if_pos hd, Nat.zero_mul, Nat.zero_add]

theorem u8_of {a : UInt8} {n : Nat} (h : n = a.toNat) : UInt8.ofNat n = a := by rw [h, UInt8.ofNat_toNat]

theorem dgv_two {l : List UInt8} (h : l.length = 2) (hd : dgAll l = true) : p2 (dgv l).toNat = l ∧ 0 ≤ dgv l ∧ dgv l < 100 := by
  obtain ⟨a, b, rfl⟩ : ∃ a b, l = [a, b] := by
    match l, h with
    | [a, b], _ => exact ⟨a, b, rfl⟩
  have ha := dgAll_mem.1 hd a (by simp)
  have hb := dgAll_mem.1 hd b (by simp)
  unfold dgv
  rw [dec2 a b ha hb]
  simp only [Option.getD_some, Int.toNat_natCast]
  refine ⟨?_, by omega, by omega⟩
  unfold p2
  rw [u8_of (a := a) (by omega), u8_of (a := b) (by omega)]

theorem dgv_four {l : List UInt8} (h : l.length = 4) (hd : dgAll l = true) : p4 (dgv l).toNat = l ∧ 0 ≤ dgv l ∧ dgv l < 10000 := by
  obtain ⟨a, b, c, d, rfl⟩ : ∃ a b c d, l = [a, b, c, d] := by
    match l, h with
    | [a, b, c, d], _ => exact ⟨a, b, c, d, rfl⟩
  have ha := dgAll_mem.1 hd a (by simp)
  have hb := dgAll_mem.1 hd b (by simp)
  have hc := dgAll_mem.1 hd c (by simp)
  have hd' := dgAll_mem.1 hd d (by simp)
  unfold dgv
  rw [dec4 a b c d ha hb hc hd']
  simp only [Option.getD_some, Int.toNat_natCast]
  refine ⟨?_, by omega, by omega⟩
  unfold p4
  rw [u8_of (a := a) (by omega), u8_of (a := b) (by omega), u8_of (a := c) (by omega), u8_of (a := d) (by omega)]

theorem u8_nat {n : Nat} (h : n < 256) : (UInt8.ofNat n).toNat = n := by simp [UInt8.toNat_ofNat']; omega

theorem p2_dg {n : Nat} (h : n < 100) : (p2 n).length = 2 ∧ dgAll (p2 n) = true ∧ dgv (p2 n) = n := by
  have e1 : (UInt8.ofNat (48 + n / 10)).toNat = 48 + n / 10 := u8_nat (by omega)
  have e2 : (UInt8.ofNat (48 + n % 10)).toNat = 48 + n % 10 := u8_nat (by omega)
  refine ⟨rfl, dgAll_mem.2 fun b hb => ?_, ?_⟩
  · simp only [p2, List.mem_cons, List.not_mem_nil, or_false] at hb
    rcases hb with rfl | rfl
    · rw [e1]; omega
    · rw [e2]; omega
  · unfold dgv p2
    rw [dec2 _ _ (by rw [e1]; omega) (by rw [e2]; omega), e1, e2]
    simp only [Option.getD_some]
    omega

theorem p4_dg {n : Nat} (h : n < 10000) : (p4 n).length = 4 ∧ dgAll (p4 n) = true ∧ dgv (p4 n) = n := by
  have e1 : (UInt8.ofNat (48 + n / 1000)).toNat = 48 + n / 1000 := u8_nat (by omega)
  have e2 : (UInt8.ofNat (48 + n / 100 % 10)).toNat = 48 + n / 100 % 10 := u8_nat (by omega)
  have e3 : (UInt8.ofNat (48 + n / 10 % 10)).toNat = 48 + n / 10 % 10 := u8_nat (by omega)
  have e4 : (UInt8.ofNat (48 + n % 10)).toNat = 48 + n % 10 := u8_nat (by omega)
  refine ⟨rfl, dgAll_mem.2 fun b hb => ?_, ?_⟩
  · simp only [p4, List.mem_cons, List.not_mem_nil, or_false] at hb
    rcases hb with rfl | rfl | rfl | rfl
    · rw [e1]; omega
    · rw [e2]; omega
    · rw [e3]; omega
    · rw [e4]; omega
  · unfold dgv p4
    rw [dec4 _ _ _ _ (by rw [e1]; omega) (by rw [e2]; omega) (by rw [e3]; omega) (by rw [e4]; omega), e1, e2, e3, e4]
    simp only [Option.getD_some]
    omega

theorem dateS_list (P : Date) : (dateS P).data.toList = p4 P.y.toNat ++ 45 :: (p2 P.m.toNat ++ 45 :: p2 P.d.toNat) := by
  unfold dateS
  simp [ByteArray.data_append]

theorem num_pos {y m d : Int} (hy : 2001 ≤ y) (h : (⟨y, m, d⟩ : Date).ok) : 0 ≤ Cal.num y m d := by
  have h1 := (num_in h).1
  have h2 := yd_mono hy
  have h3 : yd 2001 = 0 := by decide
  have h4 : (⟨y, m, d⟩ : Date).num = Cal.num y m d := rfl
  have h5 : (⟨y, m, d⟩ : Date).y = y := rfl
  rw [h4, h5] at h1
  omega

theorem dateR_fwd {l : List UInt8} {d : Int} (h : dateR l = (d, 0)) : 0 ≤ d ∧ d ≤ 100000 ∧ l = (dateS (parts d)).data.toList := by
  cases hf : isDateF l with
  | false =>
    unfold dateR at h
    rw [hf] at h
    have h9 := congrArg Prod.snd h
    simp at h9
  | true =>
    obtain ⟨p, q, r, rfl, h1, h2, h3, k1, k2, k3⟩ := isDateF_parts hf
    rw [dateR_of h1 h2 h3 k1 k2 k3] at h
    obtain ⟨e1, y0, y1⟩ := dgv_four h1 k1
    obtain ⟨e2, m0, m1⟩ := dgv_two h2 k2
    obtain ⟨e3, d0, d1⟩ := dgv_two h3 k3
    unfold dayOfR at h
    split at h
    · rename_i hc
      have hn : Cal.num (dgv p) (dgv q) (dgv r) = d := congrArg Prod.fst h
      have hok : (⟨dgv p, dgv q, dgv r⟩ : Date).ok := ⟨hc.2.2.1, hc.2.2.2.1, hc.2.2.2.2.1, hc.2.2.2.2.2.1⟩
      have hpos := num_pos hc.1 hok
      have hp := parts_num hok
      rw [show (⟨dgv p, dgv q, dgv r⟩ : Date).num = d from hn] at hp
      refine ⟨by omega, by omega, ?_⟩
      rw [dateS_list, hp]
      show _ = p4 (dgv p).toNat ++ 45 :: (p2 (dgv q).toNat ++ 45 :: p2 (dgv r).toNat)
      rw [e1, e2, e3]
    · have h9 := congrArg Prod.snd h
      simp at h9

theorem dateR_back {d : Int} (h0 : 0 ≤ d) (h1 : d ≤ 100000) : dateR (dateS (parts d)).data.toList = (d, 0) := by
  have hy := year_top h0 h1
  obtain ⟨q1, q2, q3, q4⟩ := (parts_ok d).1
  have q5 := (mlen_bd (parts d).y (parts d).m).2
  have hn : Cal.num (parts d).y (parts d).m (parts d).d = d := (parts_ok d).2
  obtain ⟨a1, a2, a3⟩ := p4_dg (n := (parts d).y.toNat) (by omega)
  obtain ⟨b1, b2, b3⟩ := p2_dg (n := (parts d).m.toNat) (by omega)
  obtain ⟨c1, c2, c3⟩ := p2_dg (n := (parts d).d.toNat) (by omega)
  rw [dateS_list, dateR_of a1 b1 c1 a2 b2 c2, a3, b3, c3, Int.toNat_of_nonneg (by omega), Int.toNat_of_nonneg (by omega), Int.toNat_of_nonneg (by omega)]
  rw [dayOfR, hn, if_pos ⟨hy.1, by omega, q1, q2, q3, q4, h1⟩]

end Go.Proofs.YtioppoaijehicaaGreatDoor
