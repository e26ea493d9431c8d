/-
  PLAIN: values, and their order, as Lean functions; where a value lies in memory.
-/
import Derived.RowKit
import Derived.Lib.Bytealg
import Derived.Test.YtioppoaijehicaaGreatDoorInts
import Derived.Test.YtioppoaijehicaaGreatDoorRows
import Derived.WalkKit
import Derived.WalkSpells
import Derived.WalkLawsBesides
import Derived.Handy
set_option linter.all false
namespace Go.Proofs.YtioppoaijehicaaGreatDoor
open Go.RowKit

/-- A value of a property: its kind, two numbers, a text, items. -/
inductive V where
  | mk (k i t : Int) (s : ByteArray) (l : List V)

def V.k : V → Int | .mk k _ _ _ _ => k

def V.i : V → Int | .mk _ i _ _ _ => i

def V.t : V → Int | .mk _ _ t _ _ => t

def V.s : V → ByteArray | .mk _ _ _ s _ => s

def V.l : V → List V | .mk _ _ _ _ l => l

def V.arg (v : V) (A : Option Addr) (c : Nat) : Value := .agg #[.int .i64 v.k, .int .i64 v.i, .int .i64 v.t, .string v.s, .slice A v.l.length c]

theorem cmp3_lt {a b : Int} (h : a < b) : cmp3 a b = -1 := if_pos h

theorem cmp3_gt {a b : Int} (h : b < a) : cmp3 a b = 1 := by rw [cmp3, if_neg (by omega), if_pos h]

theorem cmp3_eq (a : Int) : cmp3 a a = 0 := by rw [cmp3, if_neg (by omega), if_neg (by omega)]

theorem cmp3_ne {a b : Int} (h : a ≠ b) : cmp3 a b ≠ 0 := by unfold cmp3; (repeat' split) <;> omega

theorem less_cmp : ∀ (a b : List UInt8), (Lib.compareBytes a b = -1 ∧ Op.bytesLess a b = true ∧ Op.bytesLess b a = false ∧ (a == b) = false) ∨ (Lib.compareBytes a b = 1 ∧ Op.bytesLess a b = false ∧ Op.bytesLess b a = true ∧ (a == b) = false) ∨ (Lib.compareBytes a b = 0 ∧ Op.bytesLess a b = false ∧ Op.bytesLess b a = false ∧ (a == b) = true)
  | [], [] => by simp [Lib.compareBytes, Op.bytesLess]
  | [], _ :: _ => by simp [Lib.compareBytes, Op.bytesLess]
  | _ :: _, [] => by simp [Lib.compareBytes, Op.bytesLess]
  | x :: xs, y :: ys => by
    have ih := less_cmp xs ys
    unfold Lib.compareBytes
    by_cases h : x < y
    · left
      have h2 : ¬ y < x := fun h2 => UInt8.lt_irrefl x (UInt8.lt_trans h h2)
      have h3 : ¬ x = y := fun h3 => by subst h3; exact UInt8.lt_irrefl x h
      have h4 : ¬ y = x := fun h4 => h3 h4.symm
      simp [h, h2, h3, h4, Op.bytesLess]
    · by_cases h2 : y < x
      · right; left
        have h3 : ¬ x = y := fun h3 => by subst h3; exact h h2
        simp [h, h2, h3, Op.bytesLess]
      · have h3 : x = y := UInt8.le_antisymm (UInt8.not_lt.1 h2) (UInt8.not_lt.1 h)
        subst h3
        simp only [if_neg h, Op.bytesLess, beq_self_eq_true, Bool.true_and, List.cons_beq_cons]
        simpa [h] using ih

mutual

def cmpV : V → V → Int
  | .mk k i t s l, .mk k' i' t' s' l' =>
    if k = k' then
      (if k = 1 ∨ k = 2 ∨ k = 4 then cmp3 i i' else if k = 5 then or2 (cmp3 i i') (cmp3 t t') else if k = 3 ∨ k = 6 then Lib.compareBytes s.data.toList s'.data.toList else if k = 7 then cmpL l l' else 0)
    else cmp3 k k'

def cmpL : List V → List V → Int
  | [], [] => 0
  | [], _ :: _ => -1
  | _ :: _, [] => 1
  | x :: xs, y :: ys => if cmpV x y = 0 then cmpL xs ys else cmpV x y
end

/-- The cells of a value lie at an address of a world; so do those of its items. -/
def VAt (w : World) : V → Nat → Nat → Prop
  | .mk k i t s l, b, o => w.cell? ⟨b, o, none⟩ = some (.int .i64 k) ∧ w.cell? ⟨b, o + 1, none⟩ = some (.int .i64 i) ∧ w.cell? ⟨b, o + 2, none⟩ = some (.int .i64 t) ∧ w.cell? ⟨b, o + 3, none⟩ = some (.string s) ∧
    ∃ A c, w.cell? ⟨b, o + 4, none⟩ = some (.slice A l.length c) ∧ l.length ≤ maxLen ∧ (0 < l.length → ∃ b' o', A = some ⟨b', o', none⟩ ∧ b' < w.heap.size ∧ ∀ j (h : j < l.length), VAt w l[j] b' (o' + j * 5))
termination_by v => SizeOf.sizeOf v
decreasing_by
  have := List.sizeOf_lt_of_mem (List.getElem_mem h)
  simp only [V.mk.sizeOf_spec]
  omega

def LAt (w : World) (A : Option Addr) (l : List V) : Prop :=
  l.length ≤ maxLen ∧ (0 < l.length → ∃ b' o', A = some ⟨b', o', none⟩ ∧ b' < w.heap.size ∧ ∀ j (h : j < l.length), VAt w l[j] b' (o' + j * 5))

theorem VAt_iff {w : World} {v : V} {b o : Nat} : VAt w v b o ↔ w.cell? ⟨b, o, none⟩ = some (.int .i64 v.k) ∧ w.cell? ⟨b, o + 1, none⟩ = some (.int .i64 v.i) ∧ w.cell? ⟨b, o + 2, none⟩ = some (.int .i64 v.t) ∧ w.cell? ⟨b, o + 3, none⟩ = some (.string v.s) ∧
    ∃ A c, w.cell? ⟨b, o + 4, none⟩ = some (.slice A v.l.length c) ∧ LAt w A v.l := by
  obtain ⟨k, i, t, s, l⟩ := v
  rw [VAt]
  exact Iff.rfl

theorem VAt.below {w w' : World} (hb : Below w.heap.size w w') : ∀ (v : V) (b o : Nat), b < w.heap.size → VAt w v b o → VAt w' v b o
  | .mk k i t s l, b, o, hlt, h => by
    have hk : ∀ i, w'.cell? ⟨b, i, none⟩ = w.cell? ⟨b, i, none⟩ := fun i => hb.cell (p := ⟨b, i, none⟩) hlt
    rw [VAt] at h ⊢
    obtain ⟨h0, h1, h2, h3, A, c, h4, h5, h6⟩ := h
    refine ⟨(hk _).trans h0, (hk _).trans h1, (hk _).trans h2, (hk _).trans h3, A, c, (hk _).trans h4, h5, fun hl => ?_⟩
    obtain ⟨b', o', hA, hb', hj⟩ := h6 hl
    exact ⟨b', o', hA, Nat.lt_of_lt_of_le hb' hb.size, fun j h => VAt.below hb l[j] b' _ hb' (hj j h)⟩
termination_by v => SizeOf.sizeOf v
decreasing_by
  have := List.sizeOf_lt_of_mem (List.getElem_mem h)
  simp only [V.mk.sizeOf_spec]
  omega

theorem LAt.below {w w' : World} {A : Option Addr} {l : List V} (h : LAt w A l) (hb : Below w.heap.size w w') : LAt w' A l :=
  ⟨h.1, fun hl => by
    obtain ⟨b', o', hA, hb', hj⟩ := h.2 hl
    exact ⟨b', o', hA, Nat.lt_of_lt_of_le hb' hb.size, fun j h => VAt.below hb l[j] b' _ hb' (hj j h)⟩⟩

theorem cmpL_done (ys : List V) : cmpL [] ys = if ys.length = 0 then 0 else -1 := by
  cases ys <;> simp [cmpL]

theorem cmpL_over {xs ys : List V} {k : Nat} (hx : k < xs.length) (hy : ys.length ≤ k) : cmpL (xs.drop k) (ys.drop k) = 1 := by
  rw [List.drop_eq_getElem_cons hx, List.drop_eq_nil_of_le hy, cmpL]

theorem cmpL_step {xs ys : List V} {k : Nat} (hx : k < xs.length) (hy : k < ys.length) : cmpL (xs.drop k) (ys.drop k) = if cmpV xs[k] ys[k] = 0 then cmpL (xs.drop (k + 1)) (ys.drop (k + 1)) else cmpV xs[k] ys[k] := by
  rw [List.drop_eq_getElem_cons hx, List.drop_eq_getElem_cons hy, cmpL]

theorem cmpL_end {xs ys : List V} {k : Nat} (hx : xs.length ≤ k) : cmpL (xs.drop k) (ys.drop k) = if ys.length ≤ k then 0 else -1 := by
  rw [List.drop_eq_nil_of_le hx, cmpL_done]
  simp only [List.length_drop]
  by_cases h : ys.length ≤ k
  · rw [if_pos (by omega), if_pos h]
  · rw [if_neg (by omega), if_neg h]

end Go.Proofs.YtioppoaijehicaaGreatDoor
/-
  PLAIN: the calendar: the days of years and months, a day's date, that a date is known by its day; no program in sight.
-/
namespace Go.Proofs.YtioppoaijehicaaGreatDoor
namespace Cal

/-- One day more in a leap year. -/
def lp (y : Int) : Int := if y % 4 = 0 ∧ (y % 100 ≠ 0 ∨ y % 400 = 0) then 1 else 0

def yd (y : Int) : Int := 365 * (y - 2001) + ((y - 1) / 4 - 500) - ((y - 1) / 100 - 20) + ((y - 1) / 400 - 5)

theorem yd_succ (y : Int) : yd (y + 1) = yd y + 365 + lp y := by
  unfold yd lp
  split <;> omega

def doe (y : Int) : Int := 365 * y + y / 4 - y / 100

theorem yoe (n : Int) (h0 : 0 ≤ n) (h1 : n < 146097) : 0 ≤ (n - n / 1460 + n / 36524 - n / 146096) / 365 ∧ (n - n / 1460 + n / 36524 - n / 146096) / 365 < 400 ∧ doe ((n - n / 1460 + n / 36524 - n / 146096) / 365) ≤ n ∧
    (n < doe ((n - n / 1460 + n / 36524 - n / 146096) / 365 + 1) ∨ ((n - n / 1460 + n / 36524 - n / 146096) / 365 = 399 ∧ n ≤ doe 400)) := by
  by_cases hl : n = 146096
  · subst hl; decide
  have hd : n / 146096 = 0 := by omega
  rw [hd]
  obtain ⟨c, hc⟩ : ∃ c, c = n / 36524 := ⟨_, rfl⟩
  obtain ⟨q, hq⟩ : ∃ q, q = (n - 36524 * c) / 1461 := ⟨_, rfl⟩
  obtain ⟨r, hr⟩ : ∃ r, r = n - 36524 * c - 1461 * q := ⟨_, rfl⟩
  have b1 : 0 ≤ c ∧ c ≤ 3 := by omega
  have b2 : 0 ≤ q ∧ q ≤ 24 := by omega
  have b3 : 0 ≤ r ∧ r < 1461 := by omega
  have b4 : q = 24 → r < 1460 := by omega
  have hn : n = 36524 * c + 1461 * q + r := by omega
  clear hq hr
  obtain ⟨e, he⟩ : ∃ e, e = (24 * c + q + r) / 1460 := ⟨_, rfl⟩
  have h6 : n / 1460 = 25 * c + q + e := by omega
  have be : e = 0 ∨ e = 1 := by omega
  rw [h6, ← hc]
  obtain ⟨t, ht⟩ : ∃ t, t = (r - e) / 365 := ⟨_, rfl⟩
  have hy : (n - (25 * c + q + e) + c - 0) / 365 = 100 * c + 4 * q + t := by omega
  have bt : 0 ≤ t ∧ t ≤ 3 := by omega
  rw [hy]
  have h4 : (100 * c + 4 * q + t) / 4 = 25 * c + q := by omega
  have h5 : (100 * c + 4 * q + t) / 100 = c := by omega
  unfold doe
  rw [h4, h5]
  refine ⟨by omega, by omega, by omega, ?_⟩
  by_cases h3 : t = 3
  · subst h3
    have h7 : (100 * c + 4 * q + 3 + 1) / 4 = 25 * c + q + 1 := by omega
    rw [h7]
    by_cases h24 : q = 24
    · subst h24
      have : (100 * c + 4 * 24 + 3 + 1) / 100 = c + 1 := by omega
      rw [this]
      left; omega
    · have : (100 * c + 4 * q + 3 + 1) / 100 = c := by omega
      rw [this]
      left; omega
  · have h7 : (100 * c + 4 * q + t + 1) / 4 = 25 * c + q := by omega
    have : (100 * c + 4 * q + t + 1) / 100 = c := by omega
    rw [h7, this]
    left; omega

/-- The days of a year before a month (13: the whole year). -/
def cumC (m : Int) : Int :=
  if m ≤ 1 then 0 else if m = 2 then 31 else if m = 3 then 59 else if m = 4 then 90 else if m = 5 then 120 else if m = 6 then 151 else if m = 7 then 181 else if m = 8 then 212 else if m = 9 then 243 else if m = 10 then 273 else if m = 11 then 304 else if m = 12 then 334 else 365

def cum (y m : Int) : Int := cumC m + if 3 ≤ m then lp y else 0

def mlen (y m : Int) : Int := if m = 2 then 28 + lp y else if m = 4 ∨ m = 6 ∨ m = 9 ∨ m = 11 then 30 else 31

def num (y m d : Int) : Int := yd y + cum y m + d - 1

structure Date where
  y : Int
  m : Int
  d : Int

def Date.ok (a : Date) : Prop := 1 ≤ a.m ∧ a.m ≤ 12 ∧ 1 ≤ a.d ∧ a.d ≤ mlen a.y a.m

def Date.num (a : Date) : Int := Cal.num a.y a.m a.d

theorem month_cases {m : Int} (h : 1 ≤ m) (h' : m ≤ 12) : m = 1 ∨ m = 2 ∨ m = 3 ∨ m = 4 ∨ m = 5 ∨ m = 6 ∨ m = 7 ∨ m = 8 ∨ m = 9 ∨ m = 10 ∨ m = 11 ∨ m = 12 := by omega

theorem lp_01 (y : Int) : lp y = 0 ∨ lp y = 1 := by unfold lp; split <;> simp

theorem cum_succ {y m : Int} (h : 1 ≤ m) (h' : m ≤ 12) : cum y (m + 1) = cum y m + mlen y m := by
  rcases month_cases h h' with rfl | rfl | rfl | rfl | rfl | rfl | rfl | rfl | rfl | rfl | rfl | rfl <;> simp [cum, cumC, mlen] <;> omega

theorem mlen_bd (y m : Int) : 28 ≤ mlen y m ∧ mlen y m ≤ 31 := by
  have := lp_01 y
  unfold mlen; (repeat' split) <;> omega

theorem cum_monoN {y m : Int} (h : 1 ≤ m) : ∀ k : Nat, m + k ≤ 13 → cum y m ≤ cum y (m + k)
  | 0, _ => by simp
  | k + 1, hk => by
    have := cum_monoN (y := y) h k (by omega)
    have h2 := cum_succ (y := y) (m := m + k) (by omega) (by omega)
    have h3 := mlen_bd y (m + k)
    have e : m + ((k + 1 : Nat) : Int) = m + k + 1 := by omega
    rw [e]
    omega

theorem cum_mono {y m n : Int} (h : 1 ≤ m) (hmn : m ≤ n) (h' : n ≤ 13) : cum y m ≤ cum y n := by
  have := cum_monoN (y := y) h (n - m).toNat (by omega)
  rwa [show m + ((n - m).toNat : Int) = n by omega] at this

theorem cum_1 (y : Int) : cum y 1 = 0 := by simp [cum, cumC]

theorem cum_13 (y : Int) : cum y 13 = 365 + lp y := by simp [cum, cumC]

theorem yd_mono {a b : Int} (h : a ≤ b) : yd a ≤ yd b := by unfold yd; omega

theorem num_in {a : Date} (h : a.ok) : yd a.y ≤ a.num ∧ a.num < yd (a.y + 1) ∧ cum a.y a.m ≤ a.num - yd a.y ∧ a.num - yd a.y < cum a.y (a.m + 1) := by
  obtain ⟨h1, h2, h3, h4⟩ := h
  have hs := cum_succ (y := a.y) h1 h2
  have h0 := cum_mono (y := a.y) (m := 1) (n := a.m) (by omega) h1 (by omega)
  have h9 := cum_mono (y := a.y) (m := a.m + 1) (n := 13) (by omega) (by omega) (by omega)
  rw [cum_1] at h0
  rw [cum_13] at h9
  rw [yd_succ]
  unfold Date.num num
  omega

theorem num_inj {a b : Date} (ha : a.ok) (hb : b.ok) (h : a.num = b.num) : a = b := by
  obtain ⟨a1, a2, a3, a4⟩ := num_in ha
  obtain ⟨b1, b2, b3, b4⟩ := num_in hb
  obtain ⟨y, m, d⟩ := a
  obtain ⟨y', m', d'⟩ := b
  obtain ⟨p1, p2, p3, p4⟩ := ha
  obtain ⟨q1, q2, q3, q4⟩ := hb
  simp only at *
  have hy : y = y' := by
    rcases Int.lt_trichotomy y y' with hl | hl | hl
    · have := yd_mono (a := y + 1) (b := y') (by omega); omega
    · exact hl
    · have := yd_mono (a := y' + 1) (b := y) (by omega); omega
  subst hy
  have hm : m = m' := by
    rcases Int.lt_trichotomy m m' with hl | hl | hl
    · have := cum_mono (y := y) (m := m + 1) (n := m') (by omega) (by omega) (by omega); omega
    · exact hl
    · have := cum_mono (y := y) (m := m' + 1) (n := m) (by omega) (by omega) (by omega); omega
  subst hm
  unfold Date.num num at h
  simp only at h
  have : d = d' := by omega
  subst this
  rfl

/-- The reference's parts of a day. -/
def partsY (n : Int) : Int := (n - n / 1460 + n / 36524 - n / 146096) / 365

def parts (d : Int) : Date :=
  let row := (d + 730791) / 146097
  let n := d + 730791 - 146097 * row
  let y := partsY n
  let k := n - (365 * y + y / 4 - y / 100)
  let m := (5 * k + 2) / 153
  if 12 < m + 3 then ⟨400 * row + y + 1, m + 3 - 12, k - (153 * m + 2) / 5 + 1⟩ else ⟨400 * row + y, m + 3, k - (153 * m + 2) / 5 + 1⟩

theorem parts_ok (d : Int) : (parts d).ok ∧ (parts d).num = d := by
  unfold parts
  obtain ⟨row, hrow⟩ : ∃ r, r = (d + 730791) / 146097 := ⟨_, rfl⟩
  obtain ⟨n, hn⟩ : ∃ r, r = d + 730791 - 146097 * row := ⟨_, rfl⟩
  have n0 : 0 ≤ n := by omega
  have n1 : n < 146097 := by omega
  obtain ⟨y0, y1, y2, y3⟩ := yoe n n0 n1
  simp only [← hrow, ← hn]
  change 0 ≤ partsY n at y0
  change partsY n < 400 at y1
  change doe (partsY n) ≤ n at y2
  change n < doe (partsY n + 1) ∨ (partsY n = 399 ∧ n ≤ doe 400) at y3
  generalize partsY n = y at *
  have e1 : yd (400 * row + y + 1) = 146097 * row + doe y - 730485 := by unfold yd doe; omega
  obtain ⟨k, hk⟩ : ∃ k, k = n - (365 * y + y / 4 - y / 100) := ⟨_, rfl⟩
  rw [← hk]
  have hk' : n = doe y + k := by unfold doe; omega
  have k0 : 0 ≤ k := by omega
  have k1 : k ≤ 365 ∧ (k = 365 → lp (400 * row + y + 1) = 1) := by
    unfold doe at y2 y3 hk'
    unfold lp
    rcases y3 with y3 | ⟨rfl, y3⟩
    · refine ⟨by omega, fun h => ?_⟩
      have a1 : (y + 1) % 4 = 0 := by
        by_cases hh : (y + 1) % 4 = 0
        · exact hh
        · have g1 : (y + 1) / 4 = y / 4 := by omega
          have g2 : y / 100 ≤ (y + 1) / 100 := by omega
          omega
      have a2 : (y + 1) % 100 ≠ 0 := fun hh => by
        have g1 : (y + 1) / 4 = y / 4 + 1 := by omega
        have g2 : (y + 1) / 100 = y / 100 + 1 := by omega
        omega
      rw [if_pos]
      omega
    · refine ⟨by omega, fun h => ?_⟩
      rw [if_pos]
      omega
  obtain ⟨m, hm⟩ : ∃ m, m = (5 * k + 2) / 153 := ⟨_, rfl⟩
  rw [← hm]
  have m0 : 0 ≤ m ∧ m ≤ 11 := by omega
  have e2 := yd_succ (400 * row + y)
  have hd : d = yd (400 * row + y + 1) - 306 + k := by omega
  have l1 := lp_01 (400 * row + y)
  have l2 := lp_01 (400 * row + y + 1)
  have hmc : m = 0 ∨ m = 1 ∨ m = 2 ∨ m = 3 ∨ m = 4 ∨ m = 5 ∨ m = 6 ∨ m = 7 ∨ m = 8 ∨ m = 9 ∨ m = 10 ∨ m = 11 := by omega
  clear y2 y3 hrow hn hk hk' e1 n0 n1
  rcases hmc with rfl | rfl | rfl | rfl | rfl | rfl | rfl | rfl | rfl | rfl | rfl | rfl <;> simp [Date.ok, Date.num, num, mlen, cum, cumC] <;> omega

theorem parts_num {a : Date} (h : a.ok) : parts a.num = a := num_inj (parts_ok _).1 h (parts_ok _).2

end Cal
end Go.Proofs.YtioppoaijehicaaGreatDoor
/-
  WALKS: the program's calendar: the lengths of months, the day of a date.
-/
namespace Go.Proofs.YtioppoaijehicaaGreatDoor
open Go.RowKit Cal

def outB (n lo hi : Int) : Bool := decide (n < lo ∨ hi < n)

set_option maxHeartbeats 400000 in
theorem outsideP_any (n lo hi : Int) (w : World) :
    Calls Tryz.prog 89 #[.int .i64 n, .int .i64 lo, .int .i64 hi] w fun e w' => e = .returned (.bool (outB n lo hi)) ∧ w = w' := by
  by_cases h1 : n < lo
  · go_enter Tryz.func89, Tryz.ntmps89
    go_wp2
    go_ret
    exact ⟨by simp [outB, h1], rfl⟩
  · by_cases h2 : hi < n
    · go_enter Tryz.func89, Tryz.ntmps89
      go_wp2
      go_ret
      exact ⟨by simp [outB, h2], rfl⟩
    · go_enter Tryz.func89, Tryz.ntmps89
      go_wp2
      go_ret
      exact ⟨by simp [outB]; omega, rfl⟩

theorem outsideP_yes (n lo hi : Int) (w : World) (h : n < lo ∨ hi < n) :
    Calls Tryz.prog 89 #[.int .i64 n, .int .i64 lo, .int .i64 hi] w fun e w' => e = .returned (.bool true) ∧ w = w' :=
  (outsideP_any n lo hi w).mono fun _ _ ⟨he, hw⟩ => ⟨by rw [he]; simp [outB, h], hw⟩

theorem outsideP_no (n lo hi : Int) (w : World) (h1 : lo ≤ n) (h2 : n ≤ hi) :
    Calls Tryz.prog 89 #[.int .i64 n, .int .i64 lo, .int .i64 hi] w fun e w' => e = .returned (.bool false) ∧ w = w' :=
  (outsideP_any n lo hi w).mono fun _ _ ⟨he, hw⟩ => ⟨by rw [he]; simp [outB]; omega, hw⟩

set_option maxHeartbeats 400000 in
theorem outsideD_any (n lo hi : Int) (w : World) :
    Calls Tryz.prog 60 #[.int .i64 n, .int .i64 lo, .int .i64 hi] w fun e w' => e = .returned (.bool (outB n lo hi)) ∧ w = w' := by
  by_cases h1 : n < lo
  · go_enter Tryz.func60, Tryz.ntmps60
    go_wp2
    go_ret
    exact ⟨by simp [outB, h1], rfl⟩
  · by_cases h2 : hi < n
    · go_enter Tryz.func60, Tryz.ntmps60
      go_wp2
      go_ret
      exact ⟨by simp [outB, h2], rfl⟩
    · go_enter Tryz.func60, Tryz.ntmps60
      go_wp2
      go_ret
      exact ⟨by simp [outB]; omega, rfl⟩

theorem outsideD_yes (n lo hi : Int) (w : World) (h : n < lo ∨ hi < n) :
    Calls Tryz.prog 60 #[.int .i64 n, .int .i64 lo, .int .i64 hi] w fun e w' => e = .returned (.bool true) ∧ w = w' :=
  (outsideD_any n lo hi w).mono fun _ _ ⟨he, hw⟩ => ⟨by rw [he]; simp [outB, h], hw⟩

theorem outsideD_no (n lo hi : Int) (w : World) (h1 : lo ≤ n) (h2 : n ≤ hi) :
    Calls Tryz.prog 60 #[.int .i64 n, .int .i64 lo, .int .i64 hi] w fun e w' => e = .returned (.bool false) ∧ w = w' :=
  (outsideD_any n lo hi w).mono fun _ _ ⟨he, hw⟩ => ⟨by rw [he]; simp [outB]; omega, hw⟩

set_option maxHeartbeats 800000 in
theorem leapP_any (y : Int) (w : World) (hy : 0 ≤ y) (hy2 : y ≤ 100000) :
    Calls Tryz.prog 172 #[.int .i64 y] w fun e w' => e = .returned (.bool (decide (lp y = 1))) ∧ w = w' := by
  have hc : ((y % 4 == 0) = false ∧ decide (lp y = 1) = false) ∨ (y % 4 = 0 ∧ (y % 100 != 0) = true ∧ decide (lp y = 1) = true) ∨ (y % 4 = 0 ∧ (y % 100 != 0) = false ∧ (y % 400 == 0) = true ∧ decide (lp y = 1) = true) ∨ (y % 4 = 0 ∧ (y % 100 != 0) = false ∧ (y % 400 == 0) = false ∧ decide (lp y = 1) = false) := by
    unfold lp
    by_cases h4 : y % 4 = 0
    · by_cases h1 : y % 100 = 0
      · by_cases h0 : y % 400 = 0
        · exact .inr (.inr (.inl ⟨h4, by simp [h1], by simp [h0], by simp [h4, h0]⟩))
        · exact .inr (.inr (.inr ⟨h4, by simp [h1], by simp [h0], by simp [h1, h0]⟩))
      · exact .inr (.inl ⟨h4, by simp [h1], by simp [h4, h1]⟩)
    · exact .inl ⟨by simp [h4], by simp [h4]⟩
  generalize decide (lp y = 1) = r at hc ⊢
  rcases hc with ⟨h1, rfl⟩ | ⟨h1, h2, rfl⟩ | ⟨h1, h2, h3, rfl⟩ | ⟨h1, h2, h3, rfl⟩
  all_goals
    go_enter Tryz.func172, Tryz.ntmps172
    go_wp2
    go_ret
    exact ⟨by simp [*], rfl⟩

set_option maxHeartbeats 800000 in
theorem before_any (y : Int) (w : World) (hy : 1 ≤ y) (hy2 : y ≤ 100000) :
    Calls Tryz.prog 129 #[.int .i64 y] w fun e w' => e = .returned (.int .i64 (yd y)) ∧ w = w' := by
  go_enter Tryz.func129, Tryz.ntmps129
  go_wp2
  go_ret
  exact ⟨ret_int (by unfold yd; omega), rfl⟩

def lens (y : Int) : Array Value := #[.int .i64 31, .int .i64 (28 + lp y), .int .i64 31, .int .i64 30, .int .i64 31, .int .i64 30, .int .i64 31, .int .i64 31, .int .i64 30, .int .i64 31, .int .i64 30, .int .i64 31]

theorem lens_at (y : Int) : ∀ i : Nat, i < 12 → (lens y)[i]? = some (.int .i64 (mlen y (i + 1)))
  | 0, _ | 1, _ | 2, _ | 3, _ | 4, _ | 5, _ | 6, _ | 7, _ | 8, _ | 9, _ | 10, _ | 11, _ => rfl
  | _ + 12, h => by omega

set_option maxHeartbeats 800000 in
set_option maxRecDepth 100000 in
theorem lengths_any (y : Int) (w : World) (hy : 0 ≤ y) (hy2 : y ≤ 100000) :
    Calls Tryz.prog 130 #[.int .i64 y] w fun e w' => e = .returned (.agg (lens y)) ∧ Below w.heap.size w w' := by
  have hl := leapP_any y
  rcases lp_01 y with h | h
  all_goals
    simp only [h, Int.reduceEq, decide_false, decide_true] at hl
    unfold lens
    rw [h]
    have HL := hide hl
    clear hl h
    go_enter Tryz.func130, Tryz.ntmps130
    go_wp2_with (go_at_call 172; refine (HL.out _ hy hy2).mono ?_; rintro e w' ⟨rfl, rfl⟩)
    go_returns
    exact ⟨rfl, by repeat (first | exact Below.refl _ _ | refine bl_plus ?_ | refine bl_alloc ?_ _ | refine bl_drew ?_)⟩

end Go.Proofs.YtioppoaijehicaaGreatDoor
