/-
  PLAIN: the periods of a right rule: where each begins, and which days of it the rule takes.
-/
import Derived.Test.YtpbkidjbbhkjnaaRbc
namespace Go.Proofs.Ytpbkidjbbhkjnaa
open Cal

/-- A right rule's fields. -/
structure Rul.Ok (r : Rul) : Prop where
  u : 1 ≤ r.u ∧ r.u ≤ 4
  e : 1 ≤ r.e ∧ r.e ≤ 1000
  f : 0 ≤ r.f ∧ r.f ≤ 100000
  t : -1 ≤ r.t ∧ r.t ≤ 100000
  c : 0 ≤ r.c ∧ r.c ≤ 5000
  parts : r.partsErr = 0
  wd : rise r.wd 0 6 true = 0
  da : rise r.da (-31) 31 false = 0
  n : -5 ≤ r.n ∧ r.n ≤ 5
  skl : r.sk.length ≤ 100
  sk : rise r.sk 0 100000 true = 0
theorem Rul.ok {r : Rul} (h : r.err = 0) : r.Ok := by
  rcases r.cases1 with ⟨_, e⟩ | ⟨h1, hc⟩
  · omega
  rcases hc with ⟨_, e⟩ | ⟨h2, hc⟩
  · omega
  rcases hc with ⟨_, e⟩ | ⟨h3, hc⟩
  · omega
  rcases hc with ⟨_, e⟩ | ⟨h4, hc⟩
  · omega
  rcases hc with ⟨_, e⟩ | ⟨h5, hc⟩
  · omega
  rcases hc with ⟨_, e⟩ | ⟨h6, hc⟩
  · omega
  rcases hc with ⟨_, e⟩ | ⟨h7, hc⟩
  · omega
  rcases hc with ⟨_, e⟩ | ⟨h8, hc⟩
  · omega
  rcases hc with ⟨_, e⟩ | ⟨h9, hc⟩
  · omega
  rcases hc with ⟨_, e⟩ | ⟨h10, e⟩
  · omega
  exact ⟨h1, h2, h3, h4, h5, h6, h7, h8, h9, h10, by omega⟩

theorem rise_step {l : List Int} {lo hi : Int} {zero : Bool} (h : rise l lo hi zero = 0) (j : Nat) (hj : j + 1 < l.length) : l[j] < l[j + 1] := by
  have h0 : riseAt l lo hi zero (j + 1) = 0 := by
    unfold rise at h
    cases hf : (List.range l.length).find? (fun k => riseAt l lo hi zero k != 0) with
    | none =>
      have := List.find?_eq_none.1 hf (j + 1) (List.mem_range.2 hj)
      simpa using this
    | some k =>
      rw [hf] at h
      have := List.find?_some hf
      simp only at h
      rw [h] at this
      simp at this
  unfold riseAt at h0
  split at h0
  · cases h0
  · split at h0
    · cases h0
    · rename_i h3
      rw [Nat.add_sub_cancel] at h3
      simp only [List.getD_eq_getElem?_getD, List.getElem?_eq_getElem hj, List.getElem?_eq_getElem (show j < l.length by omega), Option.getD_some] at h3
      omega
theorem rise_pairwise {l : List Int} {lo hi : Int} {zero : Bool} (h : rise l lo hi zero = 0) : l.Pairwise (· < ·) := by
  rw [List.pairwise_iff_getElem]
  have key : ∀ (d i : Nat) (hj : i + d + 1 < l.length), l[i] < l[i + d + 1] := by
    intro d
    induction d with
    | zero => intro i hj; exact rise_step h i hj
    | succ d ih =>
      intro i hj
      have h1 := ih i (by omega)
      have h2 := rise_step h (i + d + 1) hj
      have e : i + (d + 1) + 1 = i + d + 1 + 1 := by omega
      simp only [e]
      omega
  intro i j hi hj hij
  have := key (j - i - 1) i (by omega)
  simpa only [show i + (j - i - 1) + 1 = j by omega] using this
theorem rise_mem {l : List Int} {lo hi : Int} {zero : Bool} (h : rise l lo hi zero = 0) : ∀ x ∈ l, lo ≤ x ∧ x ≤ hi := by
  intro x hx
  obtain ⟨j, hj, rfl⟩ := List.mem_iff_getElem.1 hx
  have := rise_bd h j hj
  simpa only [List.getD_eq_getElem?_getD, List.getElem?_eq_getElem hj, Option.getD_some] using this
theorem rise_ne0 {l : List Int} {lo hi : Int} (h : rise l lo hi false = 0) : ∀ x ∈ l, x ≠ 0 := by
  intro x hx
  obtain ⟨j, hj, rfl⟩ := List.mem_iff_getElem.1 hx
  have h0 : riseAt l lo hi false j = 0 := by
    unfold rise at h
    cases hf : (List.range l.length).find? (fun k => riseAt l lo hi false k != 0) with
    | none =>
      have := List.find?_eq_none.1 hf j (List.mem_range.2 hj)
      simpa using this
    | some k =>
      rw [hf] at h
      have := List.find?_some hf
      simp only at h
      rw [h] at this
      simp at this
  unfold riseAt at h0
  split at h0
  · cases h0
  · rename_i h3
    simp only [List.getD_eq_getElem?_getD, List.getElem?_eq_getElem hj, Option.getD_some] at h3
    intro e
    exact h3 (.inr (.inr ⟨e, trivial⟩))

theorem pairwise_len : ∀ {l : List Int} {lo : Int} {N : Nat}, l.Pairwise (· < ·) → (∀ x ∈ l, lo ≤ x ∧ x < lo + N) → l.length ≤ N
  | [], _, _, _, _ => Nat.zero_le _
  | a :: l, lo, N, h, hb => by
    obtain ⟨h1, h2⟩ := List.pairwise_cons.1 h
    have ha := hb a (List.mem_cons_self ..)
    cases N with
    | zero => omega
    | succ N =>
      have := pairwise_len (l := l) (lo := lo + 1) (N := N) h2 (fun x hx => by
        have := h1 x hx
        have := hb x (List.mem_cons_of_mem _ hx)
        omega)
      simp only [List.length_cons]
      omega

/-- The first day of a month that is counted from the year 0 on. -/
def firstOf (M : Int) : Int := num (M / 12) (M % 12 + 1) 1
theorem firstOf_succ (M : Int) : firstOf (M + 1) = firstOf M + mlen (M / 12) (M % 12 + 1) := by
  unfold firstOf
  have h1 := cum_succ (y := M / 12) (m := M % 12 + 1) (by omega) (by omega)
  by_cases h : M % 12 = 11
  · have e1 : (M + 1) / 12 = M / 12 + 1 := by omega
    have e2 : (M + 1) % 12 + 1 = 1 := by omega
    rw [e1, e2]
    unfold num
    rw [cum_1, yd_succ]
    rw [h] at h1 ⊢
    have := cum_13 (M / 12)
    have e : (11 : Int) + 1 + 1 = 13 := rfl
    rw [e] at h1
    omega
  · have e1 : (M + 1) / 12 = M / 12 := by omega
    have e2 : (M + 1) % 12 + 1 = M % 12 + 1 + 1 := by omega
    rw [e1, e2]
    unfold num
    omega
theorem firstOf_leN (M : Int) : ∀ k : Nat, firstOf M + 28 * k ≤ firstOf (M + k)
  | 0 => by simp
  | k + 1 => by
    have ih := firstOf_leN M k
    have h1 := firstOf_succ (M + k)
    have h2 := mlen_bd ((M + k) / 12) ((M + k) % 12 + 1)
    have e : M + ((k + 1 : Nat) : Int) = M + k + 1 := by omega
    rw [e, h1]
    omega
theorem firstOf_lt {a b : Int} (h : a < b) : firstOf a + 28 ≤ firstOf b := by
  have := firstOf_leN a (b - a).toNat
  rw [show a + ((b - a).toNat : Int) = b by omega] at this
  omega
theorem firstOf_le {a b : Int} (h : a ≤ b) : firstOf a ≤ firstOf b := by
  have := firstOf_leN a (b - a).toNat
  rw [show a + ((b - a).toNat : Int) = b by omega] at this
  omega
theorem firstOf_of {y m : Int} (h : 1 ≤ m) (h' : m ≤ 12) : firstOf (12 * y + m - 1) = num y m 1 := by
  unfold firstOf
  rw [show (12 * y + m - 1) / 12 = y by omega, show (12 * y + m - 1) % 12 + 1 = m by omega]

/-- The month of a day, counted from the year 0 on. -/
def monOf (x : Int) : Int := 12 * (parts x).y + (parts x).m - 1
theorem monOf_parts (x : Int) : monOf x / 12 = (parts x).y ∧ monOf x % 12 + 1 = (parts x).m := by
  obtain ⟨h1, h2, h3, h4⟩ := (parts_ok x).1
  unfold monOf
  omega
theorem monOf_at (x : Int) : x = firstOf (monOf x) + (parts x).d - 1 := by
  obtain ⟨⟨h1, h2, h3, h4⟩, h5⟩ := parts_ok x
  have : firstOf (monOf x) = num (parts x).y (parts x).m 1 := firstOf_of h1 h2
  rw [this]
  unfold Date.num num at h5
  unfold num
  omega
theorem monOf_in (x : Int) : firstOf (monOf x) ≤ x ∧ x < firstOf (monOf x + 1) := by
  obtain ⟨⟨h1, h2, h3, h4⟩, h5⟩ := parts_ok x
  have h6 := monOf_at x
  have h7 := firstOf_succ (monOf x)
  rw [(monOf_parts x).1, (monOf_parts x).2] at h7
  omega
theorem monOf_ge {M x : Int} (h : firstOf M ≤ x) : M ≤ monOf x := by
  have h1 := monOf_in x
  rcases Int.lt_or_le (monOf x) M with h2 | h2
  · have := firstOf_le (a := monOf x + 1) (b := M) (by omega)
    omega
  · exact h2
theorem monOf_lt {M x : Int} (h : x < firstOf M) : monOf x < M := by
  have h1 := monOf_in x
  rcases Int.lt_or_le (monOf x) M with h2 | h2
  · exact h2
  · have := firstOf_le (a := M) (b := monOf x) h2
    omega
/-- A day by its month and its number. -/
theorem parts_of_mon {M x : Int} (h : monOf x = M) : (parts x).y = M / 12 ∧ (parts x).m = M % 12 + 1 ∧ (parts x).d = x - firstOf M + 1 := by
  subst h
  have := monOf_parts x
  have := monOf_at x
  omega
theorem mon_of_day {M a : Int} (h : 0 ≤ a) (h' : a < mlen (M / 12) (M % 12 + 1)) : monOf (firstOf M + a) = M := by
  have h1 := monOf_ge (M := M) (x := firstOf M + a) (by omega)
  have h2 := monOf_lt (M := M + 1) (x := firstOf M + a) (by rw [firstOf_succ]; omega)
  omega

theorem yd_lt {a b : Int} (h : a < b) : yd a + 365 ≤ yd b := by
  have h1 := yd_mono (a := a + 1) (b := b) (by omega)
  have h2 := yd_succ a
  have := lp_01 a
  omega
theorem year_in (x : Int) : yd (parts x).y ≤ x ∧ x < yd ((parts x).y + 1) := by
  obtain ⟨h1, h2⟩ := parts_ok x
  have := num_in h1
  omega
theorem year_eq {y x : Int} (h : yd y ≤ x) : y ≤ (parts x).y := by
  have h1 := year_in x
  rcases Int.lt_or_le (parts x).y y with h2 | h2
  · have := yd_mono (a := (parts x).y + 1) (b := y) (by omega)
    omega
  · exact h2
theorem year_lt {y x : Int} (h : x < yd y) : (parts x).y < y := by
  have h1 := year_in x
  rcases Int.lt_or_le (parts x).y y with h2 | h2
  · exact h2
  · have := yd_mono (a := y) (b := (parts x).y) h2
    omega

/-- A multiple that lies within one step of another is that one. -/
theorem mul_near {e x k : Int} (he : 0 < e) (hx : x % e = 0) (h1 : k * e ≤ x) (h2 : x < k * e + e) : x = k * e := by
  obtain ⟨q, rfl⟩ := Int.dvd_of_emod_eq_zero hx
  rw [Int.mul_comm e q] at *
  have a1 : k ≤ q := Int.le_of_mul_le_mul_right h1 he
  have a2 : q < k + 1 := Int.lt_of_mul_lt_mul_right (by rw [Int.add_mul, Int.one_mul]; exact h2) (by omega)
  rw [show q = k by omega]
theorem mul_emod_self (k e : Int) : k * e % e = 0 := Int.mul_emod_left k e

namespace Rul
/-- The month of a period. -/
def mm (r : Rul) (k : Nat) : Int := monOf r.f + (k : Int) * r.e
/-- Where a period begins. -/
def blk (r : Rul) (k : Nat) : Int :=
  if r.u = 1 then r.f + (k : Int) * r.e else if r.u = 2 then r.f - r.f % 7 + 7 * ((k : Int) * r.e) else if r.u = 3 then firstOf (r.mm k) else yd ((parts r.f).y + (k : Int) * r.e)
/-- The days of a period. -/
def pl (r : Rul) (k : Nat) : List Int := (days (r.blk k) (r.blk (k + 1))).filter r.pick
/-- Of so many periods from one on. -/
def rest (r : Rul) : Nat → Nat → List Int
  | _, 0 => []
  | k, m + 1 => r.pl k ++ r.rest (k + 1) m

theorem step_mul (k : Nat) (e : Int) : ((k + 1 : Nat) : Int) * e = (k : Int) * e + e := by
  rw [show ((k + 1 : Nat) : Int) = (k : Int) + 1 by omega, Int.add_mul, Int.one_mul]
theorem blk_lt (r : Rul) (he : 1 ≤ r.e) (k : Nat) : r.blk k < r.blk (k + 1) := by
  unfold blk mm
  have h := step_mul k r.e
  split
  · omega
  · split
    · omega
    · split
      · have := firstOf_lt (a := monOf r.f + (k : Int) * r.e) (b := monOf r.f + ((k + 1 : Nat) : Int) * r.e) (by omega)
        omega
      · have := yd_lt (a := (parts r.f).y + (k : Int) * r.e) (b := (parts r.f).y + ((k + 1 : Nat) : Int) * r.e) (by omega)
        omega
theorem blk_zero (r : Rul) (hf : 0 ≤ r.f) : 0 ≤ r.blk 0 ∧ r.blk 0 ≤ r.f := by
  unfold blk mm
  have h0 : ((0 : Nat) : Int) * r.e = 0 := by simp
  rw [h0]
  have hy := year_in r.f
  have hy0 : 2001 ≤ (parts r.f).y := year_eq (y := 2001) (by unfold yd; omega)
  split
  · omega
  · split
    · omega
    · split
      · rw [Int.add_zero]
        have h1 := monOf_in r.f
        obtain ⟨⟨h2, h3, _, _⟩, _⟩ := parts_ok r.f
        have h4 : firstOf (monOf r.f) = num (parts r.f).y (parts r.f).m 1 := firstOf_of h2 h3
        have h5 := cum_mono (y := (parts r.f).y) (m := 1) (n := (parts r.f).m) (by omega) h2 (by omega)
        rw [cum_1] at h5
        have h6 := yd_mono (a := 2001) (b := (parts r.f).y) hy0
        have h7 : yd 2001 = 0 := by unfold yd; omega
        unfold num at h4
        omega
      · rw [Int.add_zero]
        have h6 := yd_mono (a := 2001) (b := (parts r.f).y) hy0
        have h7 : yd 2001 = 0 := by unfold yd; omega
        omega
theorem blk_ge (r : Rul) (he : 1 ≤ r.e) (hf : 0 ≤ r.f) : ∀ k : Nat, (k : Int) ≤ r.blk k
  | 0 => by have := blk_zero r hf; omega
  | k + 1 => by have := blk_ge r he hf k; have := blk_lt r he k; omega
theorem rest_days (r : Rul) (he : 1 ≤ r.e) : ∀ m k : Nat, r.rest k m = (days (r.blk k) (r.blk (k + m))).filter r.pick ∧ r.blk k ≤ r.blk (k + m)
  | 0, k => by
    refine ⟨?_, Int.le_refl _⟩
    show [] = _
    rw [Nat.add_zero, days_nil (Int.le_refl _)]
    rfl
  | m + 1, k => by
    obtain ⟨h1, h2⟩ := rest_days r he m (k + 1)
    have h3 := blk_lt r he k
    have e : k + 1 + m = k + (m + 1) := by omega
    rw [e] at h1 h2
    refine ⟨?_, by omega⟩
    rw [days_app (Int.le_of_lt h3) h2, List.filter_append]
    show r.pl k ++ r.rest (k + 1) m = _
    rw [h1]
    rfl
/-- The first period behind all days. -/
theorem period_end (r : Rul) (he : 1 ≤ r.e) (hf : 0 ≤ r.f) : ∃ N : Nat, 100000 < r.blk N ∧ (∀ k, k < N → r.blk k ≤ 100000) ∧ N ≤ 100001 := by
  have key : ∀ n : Nat, 100000 < r.blk n → ∃ N : Nat, N ≤ n ∧ 100000 < r.blk N ∧ (∀ k, k < N → r.blk k ≤ 100000) := by
    intro n
    induction n with
    | zero => exact fun h => ⟨0, Nat.le_refl _, h, fun k hk => absurd hk (by omega)⟩
    | succ n ih =>
      intro h
      rcases Int.lt_or_le 100000 (r.blk n) with h1 | h1
      · obtain ⟨N, a, b, c⟩ := ih h1
        exact ⟨N, by omega, b, c⟩
      · refine ⟨n + 1, Nat.le_refl _, h, fun k hk => ?_⟩
        have hmono : ∀ j : Nat, k + j ≤ n → r.blk k ≤ r.blk (k + j) := by
          intro j
          induction j with
          | zero => exact fun _ => Int.le_refl _
          | succ j ih2 => intro hj; have := ih2 (by omega); have := blk_lt r he (k + j); have e : k + (j + 1) = k + j + 1 := (by omega); rw [e]; omega
        have := hmono (n - k) (by omega)
        rw [show k + (n - k) = n by omega] at this
        omega
  have h := blk_ge r he hf 100001
  obtain ⟨N, a, b, c⟩ := key 100001 (by omega)
  exact ⟨N, b, c, by omega⟩
theorem go_all (r : Rul) (h : r.Ok) (cont : Int → Bool) {N : Nat} (hN : 100000 < r.blk N) : r.go cont (r.rest 0 N) 0 = visit cont r.occ := by
  have hl : r.last ≤ 100000 := by
    have := h.t
    unfold last
    split <;> omega
  obtain ⟨h1, h2⟩ := rest_days r h.e.1 N 0
  rw [Nat.zero_add] at h1
  rw [h1]
  exact go_occ r cont (blk_zero r h.f.1).2 (by omega) h.c.1
theorem pl_rising (r : Rul) (k : Nat) : (r.pl k).Pairwise (· < ·) := (days_rising ..).filter _
theorem mem_pl (r : Rul) {k : Nat} {x : Int} : x ∈ r.pl k ↔ (r.blk k ≤ x ∧ x < r.blk (k + 1)) ∧ r.pick x = true := by
  unfold pl
  rw [List.mem_filter, mem_days]

/-! ### The days of one period -/
theorem pl_days (r : Rul) (h : r.Ok) (hu : r.u = 1) (k : Nat) : r.pl k = [r.f + (k : Int) * r.e] := by
  have hs := step_mul k r.e
  have he := h.e.1
  refine rise_ext (r.pl_rising k) (List.pairwise_singleton ..) (fun x => ?_)
  rw [mem_pl, List.mem_singleton]
  unfold blk pick
  rw [if_pos hu, if_pos hu, if_pos hu, decide_eq_true_eq]
  constructor
  · rintro ⟨⟨h1, h2⟩, h3⟩
    have := mul_near (k := k) (by omega) h3 (by omega) (by omega)
    omega
  · rintro rfl
    refine ⟨⟨by omega, by omega⟩, ?_⟩
    rw [show r.f + (k : Int) * r.e - r.f = (k : Int) * r.e by omega]
    exact mul_emod_self ..
/-- The weekdays that a rule of weeks takes. -/
def wds (r : Rul) : List Int := if r.wd = [] then [r.f % 7] else r.wd
theorem wds_in (r : Rul) (h : r.Ok) : ∀ x ∈ r.wds, 0 ≤ x ∧ x ≤ 6 := by
  unfold wds
  split
  · intro x hx
    rw [List.mem_singleton] at hx
    omega
  · exact rise_mem h.wd
theorem wds_rising (r : Rul) (h : r.Ok) : r.wds.Pairwise (· < ·) := by
  unfold wds
  split
  · exact List.pairwise_singleton ..
  · exact rise_pairwise h.wd
theorem pl_weeks (r : Rul) (h : r.Ok) (hu : r.u = 2) (k : Nat) : r.pl k = r.wds.map (fun x => r.blk k + x) := by
  have hs := step_mul k r.e
  have he := h.e.1
  have hw := r.wds_in h
  refine rise_ext (r.pl_rising k) ?_ (fun x => ?_)
  · rw [List.pairwise_map]
    exact (r.wds_rising h).imp (fun h => by omega)
  rw [mem_pl, List.mem_map]
  have hb : ∀ j : Nat, r.blk j = r.f - r.f % 7 + 7 * ((j : Int) * r.e) := fun j => by unfold blk; rw [if_neg (by omega), if_pos hu]
  have hp : r.pick x = (decide ((x / 7 - r.f / 7) % r.e = 0) && decide (x % 7 ∈ r.wds)) := by
    unfold pick wds
    rw [if_neg (by omega), if_pos hu]
    congr 1
    split <;> simp
  rw [hp, hb, hb, Bool.and_eq_true, decide_eq_true_eq, decide_eq_true_eq]
  constructor
  · rintro ⟨⟨h1, h2⟩, h3, h4⟩
    have := mul_near (k := k) (by omega) h3 (by omega) (by omega)
    exact ⟨x % 7, h4, by omega⟩
  · rintro ⟨w, hm, rfl⟩
    have := hw w hm
    have e1 : (r.f - r.f % 7 + 7 * ((k : Int) * r.e) + w) / 7 - r.f / 7 = (k : Int) * r.e := by omega
    have e2 : (r.f - r.f % 7 + 7 * ((k : Int) * r.e) + w) % 7 = w := by omega
    rw [e1, e2]
    exact ⟨⟨by omega, by omega⟩, mul_emod_self .., hm⟩
/-- The year of a period of years. -/
def yy (r : Rul) (k : Nat) : Int := (parts r.f).y + (k : Int) * r.e
theorem pl_years (r : Rul) (h : r.Ok) (hu : r.u = 4) (k : Nat) :
    r.pl k = if (parts r.f).d ≤ mlen (r.yy k) (parts r.f).m ∧ num (r.yy k) (parts r.f).m (parts r.f).d ≤ 100000 then [num (r.yy k) (parts r.f).m (parts r.f).d] else [] := by
  have hs := step_mul k r.e
  have he := h.e.1
  obtain ⟨⟨f1, f2, f3, f4⟩, _⟩ := parts_ok r.f
  have hb : ∀ j : Nat, r.blk j = yd (r.yy j) := fun j => by unfold blk yy; rw [if_neg (by omega), if_neg (by omega), if_neg (by omega)]
  have hp : ∀ x, r.pick x = true ↔ (((parts x).y - (parts r.f).y) % r.e = 0 ∧ (parts x).m = (parts r.f).m ∧ (parts x).d = (parts r.f).d ∧ x ≤ 100000) := fun x => by
    unfold pick
    rw [if_neg (by omega), if_neg (by omega), if_neg (by omega), Bool.and_eq_true, Bool.and_eq_true, Bool.and_eq_true, decide_eq_true_eq, decide_eq_true_eq, decide_eq_true_eq, decide_eq_true_eq]
  refine rise_ext (r.pl_rising k) ?_ (fun x => ?_)
  · split
    · exact List.pairwise_singleton ..
    · exact List.Pairwise.nil
  rw [mem_pl, hp, hb, hb]
  constructor
  · rintro ⟨⟨h1, h2⟩, h3, h4, h5, h6⟩
    have y1 := year_eq h1
    have y2 := year_lt h2
    unfold yy at y1 y2
    have := mul_near (k := k) (by omega) h3 (by omega) (by omega)
    have hy : (parts x).y = r.yy k := by unfold yy; omega
    obtain ⟨⟨_, _, _, g4⟩, g5⟩ := parts_ok x
    have g6 : num (parts x).y (parts x).m (parts x).d = x := g5
    rw [← hy, ← h4, ← h5, g6, if_pos ⟨g4, h6⟩, List.mem_singleton]
  · intro hx
    split at hx
    case isFalse => cases hx
    rename_i hd
    obtain ⟨hd, hd6⟩ := hd
    rw [List.mem_singleton] at hx
    have hok : (⟨r.yy k, (parts r.f).m, (parts r.f).d⟩ : Date).ok := ⟨f1, f2, f3, hd⟩
    have hnum : x = Date.num ⟨r.yy k, (parts r.f).m, (parts r.f).d⟩ := hx
    have hpx : parts x = ⟨r.yy k, (parts r.f).m, (parts r.f).d⟩ := (congrArg parts hnum).trans (parts_num hok)
    have hi := year_in x
    rw [← hx] at hd6
    rw [hpx] at hi ⊢
    simp only at hi ⊢
    have hlt : r.yy k < r.yy (k + 1) := by unfold yy; omega
    have := yd_mono (a := r.yy k + 1) (b := r.yy (k + 1)) (by omega)
    refine ⟨⟨hi.1, by omega⟩, ?_, (by first | rfl | trivial), (by first | rfl | trivial), hd6⟩
    rw [show r.yy k - (parts r.f).y = (k : Int) * r.e by unfold yy; omega]
    exact mul_emod_self ..
/-- Where in a month of so many days, beginning on a day, the n-th weekday lies. -/
def wAt (n first len w : Int) : Int := if n < 0 then len - 1 - ((first + len - 1) % 7 - w + 7) % 7 + 7 * (n + 1) else (w - first % 7 + 7) % 7 + 7 * (n - 1)
def dAt (len d : Int) : Int := if 0 < d then d - 1 else len + d
/-- Which of its weekdays a place in a month of so many days is. -/
def kthAt (n len a : Int) : Int := if n < 0 then -((len - (a + 1)) / 7 + 1) else a / 7 + 1
theorem wAt_neg {first len w a n : Int} (hw : 0 ≤ w) (hw' : w ≤ 6) (_ : n < 0) (_ : a < len) : len - 1 - ((first + len - 1) % 7 - w + 7) % 7 + 7 * (n + 1) = a ↔ w = (first + a) % 7 ∧ -((len - (a + 1)) / 7 + 1) = n := by
  obtain ⟨q, hq⟩ : ∃ q, q = len - 1 - a := ⟨_, rfl⟩
  have e1 : (first + len - 1) % 7 = (first + a + q) % 7 := by congr 1; omega
  have e2 : len - (a + 1) = q := by omega
  have e3 : len - 1 = a + q := by omega
  rw [e1, e2, e3]
  clear e1 e2 e3 hq
  generalize first + a = x
  constructor
  · intro h
    have : q % 7 = ((x + q) % 7 - w + 7) % 7 := by omega
    omega
  · rintro ⟨h1, h2⟩
    have : q % 7 = ((x + q) % 7 - w + 7) % 7 := by omega
    omega
theorem wAt_pos {first w a n : Int} (hw : 0 ≤ w) (hw' : w ≤ 6) (_ : 0 < n) (_ : 0 ≤ a) : (w - first % 7 + 7) % 7 + 7 * (n - 1) = a ↔ w = (first + a) % 7 ∧ a / 7 + 1 = n := by
  constructor
  · intro h
    have : a % 7 = (w - first % 7 + 7) % 7 := by omega
    omega
  · rintro ⟨h1, h2⟩
    have : a % 7 = (w - first % 7 + 7) % 7 := by omega
    omega
theorem wAt_iff {first len w a n : Int} (hw : 0 ≤ w) (hw' : w ≤ 6) (hn : n ≠ 0) (ha : 0 ≤ a) (ha' : a < len) : wAt n first len w = a ↔ w = (first + a) % 7 ∧ kthAt n len a = n := by
  unfold wAt kthAt
  by_cases h : n < 0
  · rw [if_pos h, if_pos h]
    exact wAt_neg hw hw' h ha'
  · rw [if_neg h, if_neg h]
    exact wAt_pos hw hw' (by omega) ha
theorem dAt_iff {len d a : Int} (_ : d ≠ 0) (ha : 0 ≤ a) (ha' : a < len) : dAt len d = a ↔ d = a + 1 ∨ d = a + 1 - len - 1 := by
  unfold dAt
  split <;> omega
/-- The places in a month that a rule names. -/
def ats (r : Rul) (first len : Int) : List Int :=
  if r.wd ≠ [] then r.wd.map (wAt r.n first len) else if r.da ≠ [] then r.da.map (dAt len) else [(parts r.f).d - 1]
def outs (r : Rul) (first len : Int) : List Int := ((r.ats first len).filter (fun a => decide (0 ≤ a ∧ a < len))).map (fun a => first + a)
/-- Does a rule of months take a place in a month? -/
def place (r : Rul) (first len a : Int) : Bool :=
  if r.wd ≠ [] then r.wd.contains ((first + a) % 7) && decide (kthAt r.n len a = r.n) else if r.da ≠ [] then r.da.contains (a + 1) || r.da.contains (a + 1 - len - 1) else decide (a + 1 = (parts r.f).d)
theorem place_iff (r : Rul) (h : r.Ok) (hu : r.u = 3) {first len a : Int} (ha : 0 ≤ a) (ha' : a < len) : r.place first len a = true ↔ a ∈ r.ats first len := by
  unfold place ats
  split
  · rename_i hwd
    have hn0 : r.n ≠ 0 := by
      have := h.parts
      unfold partsErr at this
      split at this
      · cases this
      · rename_i hh
        intro hn
        apply hh
        right; right
        intro hiff
        exact hiff.2 ⟨hu, hwd⟩ hn
    rw [Bool.and_eq_true, decide_eq_true_eq, List.contains_iff_mem, List.mem_map]
    constructor
    · rintro ⟨h1, h2⟩
      have hb := rise_mem h.wd _ h1
      exact ⟨_, h1, (wAt_iff hb.1 hb.2 hn0 ha ha').2 ⟨rfl, h2⟩⟩
    · rintro ⟨w, h1, h2⟩
      have hb := rise_mem h.wd _ h1
      obtain ⟨e1, e2⟩ := (wAt_iff hb.1 hb.2 hn0 ha ha').1 h2
      exact ⟨by rw [← e1]; exact h1, e2⟩
  · split
    · rw [Bool.or_eq_true, List.contains_iff_mem, List.contains_iff_mem, List.mem_map]
      constructor
      · rintro (h1 | h1)
        · exact ⟨_, h1, (dAt_iff (rise_ne0 h.da _ h1) ha ha').2 (.inl rfl)⟩
        · exact ⟨_, h1, (dAt_iff (rise_ne0 h.da _ h1) ha ha').2 (.inr rfl)⟩
      · rintro ⟨d, h1, h2⟩
        rcases (dAt_iff (rise_ne0 h.da _ h1) ha ha').1 h2 with e | e
        · exact .inl (by rw [← e]; exact h1)
        · exact .inr (by rw [← e]; exact h1)
    · rw [decide_eq_true_eq, List.mem_singleton]
      omega
theorem pick_months (r : Rul) (hu : r.u = 3) (x : Int) : r.pick x = (decide (r.mon x % r.e = 0) && r.place (firstOf (monOf x)) (mlen (monOf x / 12) (monOf x % 12 + 1)) (x - firstOf (monOf x))) := by
  obtain ⟨p1, p2, p3⟩ := parts_of_mon (rfl : monOf x = monOf x)
  unfold pick place kth kthAt
  rw [if_neg (by omega), if_neg (by omega), if_pos hu, p1, p2, p3]
  rw [show firstOf (monOf x) + (x - firstOf (monOf x)) = x by omega, show x - firstOf (monOf x) + 1 - 1 = x - firstOf (monOf x) by omega]
theorem mem_months (r : Rul) (h : r.Ok) (hu : r.u = 3) (k : Nat) (x : Int) : x ∈ r.pl k ↔ x ∈ r.outs (firstOf (r.mm k)) (mlen (r.mm k / 12) (r.mm k % 12 + 1)) := by
  have hs := step_mul k r.e
  have he := h.e.1
  have hb : ∀ j : Nat, r.blk j = firstOf (r.mm j) := fun j => by unfold blk; rw [if_neg (by omega), if_neg (by omega), if_pos hu]
  have hm0 : ∀ x, r.mon x = monOf x - monOf r.f := fun x => by unfold mon monOf; omega
  have hin : ((r.blk k ≤ x ∧ x < r.blk (k + 1)) ∧ r.mon x % r.e = 0) ↔ monOf x = r.mm k := by
    rw [hb, hb, hm0]
    constructor
    · rintro ⟨⟨h1, h2⟩, h3⟩
      have a1 := monOf_ge h1
      have a2 := monOf_lt h2
      unfold mm at a1 a2 ⊢
      have := mul_near (k := k) (by omega) h3 (by omega) (by omega)
      omega
    · intro hx
      have hi := monOf_in x
      rw [hx] at hi
      have hle := firstOf_le (a := r.mm k + 1) (b := r.mm (k + 1)) (by unfold mm; omega)
      refine ⟨⟨hi.1, by omega⟩, ?_⟩
      rw [hx, show r.mm k - monOf r.f = (k : Int) * r.e by unfold mm; omega]
      exact mul_emod_self ..
  rw [mem_pl, pick_months r hu, Bool.and_eq_true, decide_eq_true_eq, ← and_assoc, hin]
  unfold outs
  rw [List.mem_map]
  simp only [List.mem_filter, decide_eq_true_eq]
  generalize hM : r.mm k = M
  clear hin hm0 hb hs
  constructor
  · rintro ⟨hx, ht⟩
    have hi := monOf_in x
    rw [hx] at ht
    rw [hx, firstOf_succ] at hi
    obtain ⟨i1, i2⟩ := hi
    have a0 : 0 ≤ x - firstOf M := by omega
    have a1 : x - firstOf M < mlen (M / 12) (M % 12 + 1) := by omega
    exact ⟨x - firstOf M, ⟨(place_iff r h hu a0 a1).1 ht, a0, a1⟩, by omega⟩
  · rintro ⟨a, ⟨ha, a0, a1⟩, rfl⟩
    have hx := mon_of_day a0 a1
    refine ⟨hx, ?_⟩
    rw [hx, show firstOf M + a - firstOf M = a by omega]
    exact (place_iff r h hu a0 a1).2 ha

end Rul
end Go.Proofs.Ytpbkidjbbhkjnaa
