/-
  WALKS: one step of the distance, in the words of the distance under a ceiling; a row at the ceiling.
-/
import Derived.Test.YtfpcfpjnafnjiaaDistA
set_option linter.all false
namespace Go.Proofs.Ytfpcfpjnafnjiaa
open Go.RowKit Osa

theorem ch_eq {a b : ByteArray} {i j : Nat} (hi : i < a.size) (hj : j < b.size) : (if sb a i = sb b j then (0 : Nat) else 1) = (ch a[i] b[j]).toNat ∧ 0 ≤ ch a[i] b[j] := by
  rw [sb_at hi, sb_at hj]
  unfold ch
  split <;> simp
theorem C_le (a b : Nat → UInt8) (far i j : Nat) : C a b far i j ≤ far := by unfold C; omega

theorem step_C (a b : ByteArray) (i j far : Nat) (gb gl gn N : Nat) (w : World) (hi : 1 ≤ i) (hi2 : i ≤ a.size) (hj : j ≤ b.size) (hN : b.size < N) (ha : a.size ≤ 10000000) (hb : b.size ≤ 10000000) (hf : far ≤ 20000000)
    (h1 : 1 ≤ j → w.cell? ⟨gl, j, none⟩ = some (.int .i64 (C (sb a) (sb b) far (i - 1) j)) ∧ w.cell? ⟨gl, j - 1, none⟩ = some (.int .i64 (C (sb a) (sb b) far (i - 1) (j - 1))) ∧ w.cell? ⟨gn, j - 1, none⟩ = some (.int .i64 (C (sb a) (sb b) far i (j - 1))))
    (h2 : 2 ≤ i → 2 ≤ j → w.cell? ⟨gb, j - 2, none⟩ = some (.int .i64 (C (sb a) (sb b) far (i - 2) (j - 2)))) :
    Calls Try.prog 33 #[.string a, .string b, .int .i64 i, .int .i64 j, .slice (some ⟨gb, 0, none⟩) N N, .slice (some ⟨gl, 0, none⟩) N N, .slice (some ⟨gn, 0, none⟩) N N, .int .i64 far] w
      (QuietInt (C (sb a) (sb b) far i j) w) := by
  have hle := fun i j => C_le (sb a) (sb b) far i j
  rcases Nat.eq_zero_or_pos j with rfl | hj1
  · have h := step_0 a b i far (.slice (some ⟨gb, 0, none⟩) N N) (.slice (some ⟨gl, 0, none⟩) N N) (.slice (some ⟨gn, 0, none⟩) N N) w
    have e : min (i : Int) (far : Int) = ((C (sb a) (sb b) far i 0 : Nat) : Int) := by unfold C; rw [D_i0]; omega
    rw [e] at h
    exact h
  obtain ⟨h11, h12, h13⟩ := h1 hj1
  obtain ⟨q, rfl⟩ : ∃ q, j = q + 1 := ⟨j - 1, by omega⟩
  obtain ⟨p, rfl⟩ : ∃ p, i = p + 1 := ⟨i - 1, by omega⟩
  simp only [Nat.add_sub_cancel] at h11 h12 h13
  have hs := C_succ (a := sb a) (b := sb b) far p q
  have b1 := hle p (q + 1)
  have b2 := hle p q
  have b3 := hle (p + 1) q
  obtain ⟨ce, c0⟩ := ch_eq (a := a) (b := b) (i := p) (j := q) (by omega) (by omega)
  rcases Nat.eq_zero_or_pos p with rfl | hp1
  · have h := step_1 a b q gl gn N (.slice (some ⟨gb, 0, none⟩) N N) _ _ _ far w (by omega) (by omega) (by omega) hb h11 h12 h13 ⟨by omega, by omega⟩ ⟨by omega, by omega⟩ ⟨by omega, by omega⟩
    rw [if_neg (by omega), ce] at hs
    have e : min (min (min (C (sb a) (sb b) far 0 (q + 1) : Int) (C (sb a) (sb b) far (0 + 1) q) + 1) (C (sb a) (sb b) far 0 q + ch a[0] b[q])) (far : Int) = ((C (sb a) (sb b) far (0 + 1) (q + 1) : Nat) : Int) := by omega
    rw [e] at h
    exact h
  · obtain ⟨p, rfl⟩ : ∃ r, p = r + 1 := ⟨p - 1, by omega⟩
    rcases Nat.eq_zero_or_pos q with rfl | hq1
    · have h := step_2 a b p gl gn N (.slice (some ⟨gb, 0, none⟩) N N) _ _ _ far w (by omega) (by omega) (by omega) ha h11 h12 h13 ⟨by omega, by omega⟩ ⟨by omega, by omega⟩ ⟨by omega, by omega⟩
      rw [if_neg (by omega), ce] at hs
      have e : min (min (min (C (sb a) (sb b) far (p + 1) (0 + 1) : Int) (C (sb a) (sb b) far (p + 1 + 1) 0) + 1) (C (sb a) (sb b) far (p + 1) 0 + ch a[p + 1] b[0])) (far : Int) = ((C (sb a) (sb b) far (p + 1 + 1) (0 + 1) : Nat) : Int) := by omega
      rw [e] at h
      have e2 : ((p + 1 + 1 : Nat) : Int) = (p : Int) + 2 := by omega
      rw [e2]
      exact h
    · obtain ⟨q, rfl⟩ : ∃ r, q = r + 1 := ⟨q - 1, by omega⟩
      have h4 := h2 (by omega) (by omega)
      rw [show p + 1 + 1 - 2 = p by omega, show q + 1 + 1 - 2 = q by omega] at h4
      have b4 := hle p q
      have h := step_3 a b p q gb gl gn N _ _ _ _ far w (by omega) (by omega) (by omega) ha hb h11 h12 h13 h4 ⟨by omega, by omega⟩ ⟨by omega, by omega⟩ ⟨by omega, by omega⟩ ⟨by omega, by omega⟩
      have e2 : ((p + 1 + 1 : Nat) : Int) = (p : Int) + 2 := by omega
      have e3 : ((q + 1 + 1 : Nat) : Int) = (q : Int) + 2 := by omega
      have hcond : (1 ≤ p + 1 ∧ 1 ≤ q + 1 ∧ sb a (p + 1) = sb b (q + 1 - 1) ∧ sb a (p + 1 - 1) = sb b (q + 1)) ↔ (a[p + 1] = b[q] ∧ a[p] = b[q + 1]) := by
        rw [Nat.add_sub_cancel, Nat.add_sub_cancel, sb_at (show p + 1 < a.size by omega), sb_at (show q < b.size by omega), sb_at (show p < a.size by omega), sb_at (show q + 1 < b.size by omega)]
        exact ⟨fun h => ⟨h.2.2.1, h.2.2.2⟩, fun h => ⟨by omega, by omega, h.1, h.2⟩⟩
      rw [ce] at hs
      simp only [Nat.add_sub_cancel] at hs hcond
      rw [e2, e3]
      have e : (min (if a[p + 1] = b[q] ∧ a[p] = b[q + 1] then min (min (min (C (sb a) (sb b) far (p + 1) (q + 1 + 1) : Int) (C (sb a) (sb b) far (p + 1 + 1) (q + 1)) + 1) (C (sb a) (sb b) far (p + 1) (q + 1) + ch a[p + 1] b[q + 1])) (C (sb a) (sb b) far p q + 1)
          else min (min (C (sb a) (sb b) far (p + 1) (q + 1 + 1) : Int) (C (sb a) (sb b) far (p + 1 + 1) (q + 1)) + 1) (C (sb a) (sb b) far (p + 1) (q + 1) + ch a[p + 1] b[q + 1])) (far : Int)) = ((C (sb a) (sb b) far (p + 1 + 1) (q + 1 + 1) : Nat) : Int) := by
        rw [hs]
        by_cases hc : a[p + 1] = b[q] ∧ a[p] = b[q + 1]
        · rw [if_pos hc, if_pos (hcond.2 hc)]; omega
        · rw [if_neg hc, if_neg (fun h => hc (hcond.1 h))]; omega
      rw [e] at h
      exact h

/-- The first N values of a function, as a row. -/
def rowOf (N : Nat) (f : Nat → Int) : List Int := (List.range N).map f
theorem rowOf_len (N : Nat) (f : Nat → Int) : (rowOf N f).length = N := by simp [rowOf]
theorem rowOf_set {N : Nat} {f g : Nat → Int} {k : Nat} {x : Int} (hx : g k = x) (h : ∀ i, i ≠ k → g i = f i) : (rowOf N f).set k x = rowOf N g := by
  apply List.ext_getElem?
  intro i
  rw [List.getElem?_set]
  unfold rowOf
  by_cases hik : k = i
  · subst hik
    by_cases hk : k < N
    · rw [if_pos rfl, if_pos (by simpa using hk)]
      simp [hk, hx]
    · rw [if_pos rfl, if_neg (by simpa using hk), List.getElem?_eq_none (by simp; omega)]
  · rw [if_neg hik]
    by_cases hi : i < N
    · simp only [List.getElem?_map, List.getElem?_range hi, Option.map_some]
      rw [h i (fun e => hik e.symm)]
    · rw [List.getElem?_eq_none (by simp; omega), List.getElem?_eq_none (by simp; omega)]
theorem rowOf_const (N : Nat) (x : Int) : rowOf N (fun _ => x) = List.replicate N x := by
  unfold rowOf
  rw [List.map_const', List.length_range]
theorem rowOf_congr {N : Nat} {f g : Nat → Int} (h : ∀ i, i < N → f i = g i) : rowOf N f = rowOf N g := by
  unfold rowOf
  exact List.map_congr_left fun i hi => h i (by simpa using hi)
theorem rowOf_get {N : Nat} {f : Nat → Int} {i : Nat} (h : i < N) : (ints (rowOf N f))[i]? = some (.int .i64 (f i)) := by
  rw [ints_get (by rw [rowOf_len]; exact h)]
  simp [rowOf]

set_option maxHeartbeats 1600000 in
set_option maxRecDepth 100000 in
/-- A row of the distance, all at the ceiling. -/
theorem rowClo_any (b : ByteArray) (far : Int) (g4 g8 : Nat) (w : World) (h4 : w.cell? ⟨g4, 0, none⟩ = some (.string b)) (h8 : w.cell? ⟨g8, 0, none⟩ = some (.int .i64 far)) (_l4 : g4 < w.heap.size) (l8 : g8 < w.heap.size) (hb : b.size ≤ 10000000) :
    Calls Try.prog 32 #[.pointer (some ⟨g4, 0, none⟩), .pointer (some ⟨g8, 0, none⟩)] w fun e w' => e = .returned (.slice (some ⟨w.heap.size, 0, none⟩) (b.size + 1) (b.size + 1)) ∧ w' = w.alloc (.cells (ints (List.replicate (b.size + 1) far)) 3) := by
  have hmk := fun w => make_big (b.size + 1) w (by omega)
  have hc : (((b.size + 1 : Nat) : Int)) = (b.size : Int) + 1 := by omega
  rw [hc] at hmk
  have HC := hide hc
  clear hc
  generalize hN : b.size + 1 = N at *
  have HN := hide hN
  have hNi : (b.size : Int) + 1 = (N : Int) := by omega
  have hNb : N ≤ 10000001 := by omega
  have HNI := hide hNi
  clear hN hNi
  go_enter Try.func32, Try.ntmps32
  go_wp2
  go_loopw [11] (fun i wr => ∃ k : Nat, k ≤ N ∧ i = .int .i64 k ∧ wr = w.alloc (.cells (ints (rowOf N (fun i => if i < k then far else 0))) 3)) (fun i _ => N - (intOf i).toNat)
  case atStart => exact ⟨0, Nat.zero_le _, rfl, by simp only [Nat.not_lt_zero, if_false, rowOf_const]⟩
  case round =>
    obtain ⟨k, hk, rfl, rfl⟩ := hrel
    by_cases hlt : k < N
    · have hgt := rowOf_get (N := N) (f := fun i => if i < k then far else 0) hlt
      have hset : (rowOf N (fun i => if i < k then far else 0)).set k far = rowOf N (fun i => if i < k + 1 then far else 0) := rowOf_set (by simp) (fun i hi => by
        by_cases h : i < k
        · rw [if_pos h, if_pos (by omega)]
        · rw [if_neg h, if_neg (by omega)])
      have HSET := hide hset
      clear hset
      generalize rowOf N (fun i => if i < k then far else 0) = P at *
      have i1 : (k : Int) < (N : Int) := by omega
      simp only [Nat.lt_irrefl, if_false] at hgt
      go_wp2
      go_roundw
      case rel => exact ⟨k + 1, by omega, by go_num, by rw [ints_set, HSET.out]⟩
      case measure => simp [intOf]; omega
    · have hkN : k = N := by omega
      subst hkN
      have hfin : rowOf k (fun i => if i < k then far else 0) = List.replicate k far := by
        rw [← rowOf_const]
        exact rowOf_congr fun i hi => if_pos hi
      rw [hfin]
      clear hfin
      have i1 : ¬ (k : Int) < (k : Int) := by omega
      go_wp2
      go_ret
      exact ⟨rfl, rfl⟩

end Go.Proofs.Ytfpcfpjnafnjiaa
