/-
  PLAIN: a value that is read at the beginning of a string: the program's way (step by step) and the reference's (word by word) find the same.
-/
import Derived.Test.YtdncmjlakmkfiaaGreatDoorRra
import Derived.Test.YtdncmjlakmkfiaaGreatDoorDrp
import Derived.Test.YtdncmjlakmkfiaaGreatDoorNut
import Derived.Test.YtdncmjlakmkfiaaGreatDoorVal
import Derived.Lib.IndexMore
set_option linter.all false
namespace Go.Proofs.YtdncmjlakmkfiaaGreatDoor
open Go.Lib

def yesL : List UInt8 := [121, 101, 115]

def noL : List UInt8 := [110, 111]

/-- A digit. -/
def dgB (c : UInt8) : Bool := decide (48 ≤ c.toNat ∧ c.toNat ≤ 57)

/-- Neither a comma nor a bracket that closes. -/
def nsep (c : UInt8) : Bool := !(c == 44 || c == 93)

def vN : V := .mk 0 0 0 ⟨#[]⟩ []

def vFlag (n : Int) : V := .mk 1 n 0 ⟨#[]⟩ []

def vNum (n : Int) : V := .mk 2 n 0 ⟨#[]⟩ []

def vStr (t : List UInt8) : V := .mk 3 0 0 (strOf t) []

def vDate (a : Int) : V := .mk 4 a 0 ⟨#[]⟩ []

def vSpan (a b : Int) : V := .mk 5 a b ⟨#[]⟩ []

def vLink (t : List UInt8) : V := .mk 6 0 0 (strOf t) []

def vList (l : List V) : V := .mk 7 0 0 ⟨#[]⟩ l

/-- What is read: the value, how it goes on, whether a day is far. -/
abbrev Got := Option (V × List UInt8 × Bool)

/-- Whether a date's day is none. -/
def farB (l : List UInt8) : Bool := decide ((dateR l).2 ≠ 0)

/-- The length of a number at the beginning. -/
def numLen (l : List UInt8) : Nat := if hasPrefix l [45] = true then 1 + (l.tail.takeWhile dgB).length else (l.takeWhile dgB).length

def pDate (l : List UInt8) : Option (Int × List UInt8 × Bool) := if isDateF (l.take 10) = true then some ((dateR (l.take 10)).1, l.drop 10, farB (l.take 10)) else none

def pTo (a : Int) (f : Bool) (r : List UInt8) : Got := match pDate r with
  | some (b, r2, f2) => some (vSpan a b, r2, f || f2)
  | none => none

def pDays (l : List UInt8) : Option Got := match pDate l with
  | some (a, r, f) => some (if hasPrefix r [46, 46] = true then pTo a f (r.drop 2) else some (vDate a, r, f))
  | none => none

def pNum (l : List UInt8) : Got := match num10 (l.take (numLen l)) with
  | some n => some (vNum n, l.drop (numLen l), false)
  | none => none

/-- A minus that begins no number. -/
def bare (l : List UInt8) : Bool := hasPrefix l [45] && (match l.tail with | [] => true | c :: _ => !dgB c)

/-- A word, as the program reads it. -/
def pWord (l : List UInt8) : Got :=
  if hasPrefix l yesL = true then some (vFlag 1, l.drop 3, false) else if hasPrefix l noL = true then some (vFlag 0, l.drop 2, false) else match pDays l with
  | some x => x
  | none => if bare l = true then some (vN, l.drop 1, false) else pNum l

/-- A word, as the reference reads it. -/
def lf (w : List UInt8) : Option (V × Bool) :=
  if w = [45] then some (vN, false) else if w = yesL then some (vFlag 1, false) else if w = noL then some (vFlag 0, false) else match num10 w with
  | some n => some (vNum n, false)
  | none => if (cut w [46, 46]).2.2 = true then (if (isDateF (cut w [46, 46]).1 && isDateF (cut w [46, 46]).2.1) = true then some (vSpan (dateR (cut w [46, 46]).1).1 (dateR (cut w [46, 46]).2.1).1, farB (cut w [46, 46]).1 || farB (cut w [46, 46]).2.1) else none)
    else if isDateF w = true then some (vDate (dateR w).1, farB w) else none

theorem hp_iff {l p : List UInt8} : hasPrefix l p = true ↔ ∃ r, l = p ++ r := by
  unfold hasPrefix
  rw [List.isPrefixOf_iff_prefix]
  exact ⟨fun ⟨r, h⟩ => ⟨r, h.symm⟩, fun ⟨r, h⟩ => ⟨r, h.symm⟩⟩

theorem index_dd (b : List UInt8) : ∀ a : List UInt8, (46 : UInt8) ∉ a → index (a ++ 46 :: 46 :: b) [46, 46] = a.length
  | [], _ => by simp [index, List.isPrefixOf]
  | c :: a, h => by
    have h1 : (46 == c) = false := beq_eq_false_iff_ne.2 (fun e => h (by simp [e]))
    have ih := index_dd b a (fun e => h (by simp [e]))
    rw [List.cons_append, index]
    simp only [List.isPrefixOf, h1, Bool.false_and, Bool.false_eq_true, if_false, ih]
    rw [if_neg (by rw [beq_iff_eq]; omega)]
    simp

theorem index_back (x y : UInt8) : ∀ (l : List UInt8) (k : Nat), index l [x, y] = k → l = l.take k ++ x :: y :: l.drop (k + 2)
  | [], k, h => by simp [index] at h <;> omega
  | c :: l, k, h => by
    rw [index] at h
    split at h
    · rename_i hp
      obtain rfl : k = 0 := by omega
      match l, hp with
      | d :: l, hp =>
        simp only [List.isPrefixOf, Bool.and_true, Bool.and_eq_true, beq_iff_eq] at hp
        obtain ⟨rfl, rfl⟩ := hp
        rfl
      | [], hp => simp [List.isPrefixOf] at hp
    · split at h
      · omega
      · rename_i h2
        rw [beq_iff_eq] at h2
        have hge := index_ge l [x, y]
        obtain ⟨j, hj⟩ : ∃ j : Nat, index l [x, y] = j := ⟨(index l [x, y]).toNat, by omega⟩
        have ih := index_back x y l j hj
        obtain rfl : k = j + 1 := by omega
        rw [List.take_succ_cons, List.cons_append, show j + 1 + 2 = (j + 2) + 1 by omega, List.drop_succ_cons, ← ih]

theorem cut_dd {a b : List UInt8} (h : (46 : UInt8) ∉ a) : cut (a ++ 46 :: 46 :: b) [46, 46] = (a, b, true) := by
  unfold cut
  rw [index_dd b a h, if_pos (by omega)]
  simp

theorem cut_back {w : List UInt8} (h : (cut w [46, 46]).2.2 = true) : w = (cut w [46, 46]).1 ++ 46 :: 46 :: (cut w [46, 46]).2.1 := by
  unfold cut at h ⊢
  split
  · rename_i h0
    obtain ⟨j, hj⟩ : ∃ j : Nat, index w [46, 46] = j := ⟨(index w [46, 46]).toNat, by omega⟩
    have := index_back 46 46 w j hj
    rw [hj]
    exact this
  · rename_i h0
    rw [if_neg h0] at h
    cases h

theorem cut_none {w : List UInt8} (h : (46 : UInt8) ∉ w) : cut w [46, 46] = (w, [], false) := by
  unfold cut
  rw [if_neg]
  intro h0
  obtain ⟨j, hj⟩ : ∃ j : Nat, index w [46, 46] = j := ⟨(index w [46, 46]).toNat, by omega⟩
  exact h (by rw [index_back 46 46 w j hj]; simp)

/-- The bytes of a date. -/
theorem date_mem {l : List UInt8} (h : isDateF l = true) : l.length = 10 ∧ l.getD 4 0 = 45 ∧ (∃ c r, l = c :: r ∧ dgB c = true) ∧ ∀ c ∈ l, c = 45 ∨ dgB c = true := by
  obtain ⟨p, q, r, rfl, l1, l2, l3, d1, d2, d3⟩ := isDateF_parts h
  refine ⟨by simp [l1, l2, l3], ?_, ?_, fun c hc => ?_⟩
  · match p, l1 with
    | [a0, a1, a2, a3], _ => rfl
  · match p, l1 with
    | a0 :: r', _ => exact ⟨a0, _, rfl, decide_eq_true (dgAll_mem.1 d1 a0 (by simp))⟩
  · simp only [List.mem_append, List.mem_cons] at hc
    rcases hc with hc | rfl | hc | rfl | hc
    · exact .inr (decide_eq_true (dgAll_mem.1 d1 c hc))
    · exact .inl rfl
    · exact .inr (decide_eq_true (dgAll_mem.1 d2 c hc))
    · exact .inl rfl
    · exact .inr (decide_eq_true (dgAll_mem.1 d3 c hc))

theorem dgB_lo {c : UInt8} (h : dgB c = true) : 48 ≤ c.toNat ∧ c.toNat ≤ 57 := of_decide_eq_true h

theorem dgB_ne {c : UInt8} (h : dgB c = true) {d : UInt8} (hd : dgB d = false) : c ≠ d := fun e => by subst e; rw [h] at hd; cases hd

theorem date_no {l : List UInt8} (h : isDateF l = true) {d : UInt8} (hd : dgB d = false) (h45 : d ≠ 45) : d ∉ l := fun hm => by
  rcases (date_mem h).2.2.2 d hm with e | e
  · exact h45 e
  · rw [e] at hd; cases hd

/-- The form of a number. -/
theorem num10_form {w : List UInt8} {n : Int} (h : num10 w = some n) : ∃ d, d ≠ [] ∧ (∀ c ∈ d, dgB c = true) ∧ (w = 45 :: d ∨ w = d) := by
  unfold num10 at h
  split at h
  · rename_i h1
    obtain ⟨a, b, c⟩ := h1
    refine ⟨dgs w, a, fun x hx => decide_eq_true (trimS_nil c x hx), ?_⟩
    rcases dgs_cases w with e | ⟨e, _⟩
    · exact .inl e
    · exact .inr e
  · cases h

theorem num10_no {w : List UInt8} (h : isDateF w = true) : num10 w = none := by
  cases hn : num10 w with
  | none => rfl
  | some n =>
    obtain ⟨d, h0, hd, e⟩ := num10_form hn
    obtain ⟨h10, h4, -, -⟩ := date_mem h
    have : ∀ x : List UInt8, x.length = 9 ∨ x.length = 10 → (∀ c ∈ x, dgB c = true) → x.getD 3 0 ≠ 45 ∧ x.getD 4 0 ≠ 45 := fun x hx hall => by
      constructor <;>
      · rw [List.getD_eq_getElem?_getD, List.getElem?_eq_getElem (by omega)]
        exact dgB_ne (hall _ (List.getElem_mem _)) (by decide)
    rcases e with rfl | rfl
    · simp only [List.length_cons] at h10
      exact absurd (by simpa using h4) (this d (by omega) hd).1
    · exact absurd h4 (this w (by omega) hd).2

theorem num10_45 : num10 [45] = none := by
  unfold num10
  rw [if_neg]
  intro h
  exact h.1 (by simp [dgs, trimPrefix, hasPrefix, List.isPrefixOf])

/-- What a word can be. -/
inductive Wd : List UInt8 → V → Bool → Prop
  | minus : Wd [45] vN false
  | yes : Wd yesL (vFlag 1) false
  | no : Wd noL (vFlag 0) false
  | num {w : List UInt8} {n : Int} (h : num10 w = some n) : Wd w (vNum n) false
  | date {w : List UInt8} (h : isDateF w = true) : Wd w (vDate (dateR w).1) (farB w)
  | span {a b : List UInt8} (ha : isDateF a = true) (hb : isDateF b = true) : Wd (a ++ 46 :: 46 :: b) (vSpan (dateR a).1 (dateR b).1) (farB a || farB b)

theorem wd_of_lf {w : List UInt8} {v : V} {f : Bool} (h : lf w = some (v, f)) : Wd w v f := by
  unfold lf at h
  split at h
  · rename_i e; subst e; cases h; exact .minus
  · split at h
    · rename_i e; subst e; cases h; exact .yes
    · split at h
      · rename_i e; subst e; cases h; exact .no
      · cases hn : num10 w with
        | some n => rw [hn] at h; cases h; exact .num hn
        | none =>
          rw [hn] at h
          simp only at h
          split at h
          · rename_i hc
            split at h
            · rename_i hd
              rw [Bool.and_eq_true] at hd
              have e := cut_back hc
              generalize cut w [46, 46] = q at *
              obtain ⟨a, b, c⟩ := q
              cases h
              rw [e]
              exact .span hd.1 hd.2
            · cases h
          · split at h
            · rename_i hd
              cases h
              exact .date hd
            · cases h

theorem lf_ne {w : List UInt8} (h : ∀ c r, w = c :: r → c ≠ 45 ∧ c ≠ 121 ∧ c ≠ 110 ∨ 3 < w.length) (hn : w ≠ []) : w ≠ [45] ∧ w ≠ yesL ∧ w ≠ noL := by
  refine ⟨?_, ?_, ?_⟩ <;> intro e
  · rcases h 45 [] e with h | h
    · exact h.1 rfl
    · rw [e] at h; simp at h
  · rcases h 121 [101, 115] e with h | h
    · exact h.2.1 rfl
    · rw [e] at h; simp [yesL] at h
  · rcases h 110 [111] e with h | h
    · exact h.2.2 rfl
    · rw [e] at h; simp [noL] at h

theorem lf_of_wd {w : List UInt8} {v : V} {f : Bool} (h : Wd w v f) : lf w = some (v, f) := by
  cases h with
  | minus => rfl
  | yes => rfl
  | no => rfl
  | num hn =>
    obtain ⟨d, h0, hd, e⟩ := num10_form hn
    have h1 : w ≠ [45] := fun e => by rw [e, num10_45] at hn; cases hn
    have hy : ∀ (x : UInt8) (r : List UInt8), dgB x = false → x ≠ 45 → w ≠ x :: r := fun x r hx h45 e2 => by
      rcases e with e | e
      · rw [e] at e2; cases e2; exact h45 rfl
      · have := hd x (by rw [← e, e2]; simp)
        rw [this] at hx; cases hx
    unfold lf
    rw [if_neg h1, if_neg (show w ≠ yesL from hy 121 _ (by decide) (by decide)), if_neg (show w ≠ noL from hy 110 _ (by decide) (by decide)), hn]
  | date hd =>
    obtain ⟨h10, -, -, -⟩ := date_mem hd
    obtain ⟨h1, h2, h3⟩ := lf_ne (w := w) (fun c r _ => .inr (by omega)) (fun e => by rw [e] at h10; cases h10)
    unfold lf
    rw [if_neg h1, if_neg h2, if_neg h3, num10_no hd]
    simp only [cut_none (date_no hd (d := 46) (by decide) (by decide)), Bool.false_eq_true, if_false]
    rw [if_pos hd]
  | @span a b ha hb =>
    have h10 := (date_mem ha).1
    obtain ⟨h1, h2, h3⟩ := lf_ne (w := a ++ 46 :: 46 :: b) (fun c r _ => .inr (by rw [List.length_append]; omega)) (by simp)
    have hn : num10 (a ++ 46 :: 46 :: b) = none := by
      cases hn : num10 (a ++ 46 :: 46 :: b) with
      | none => rfl
      | some n =>
        obtain ⟨d, h0, hd, e⟩ := num10_form hn
        have hm : (46 : UInt8) ∈ a ++ 46 :: 46 :: b := by simp
        rcases e with e | e
        · rw [e] at hm
          rcases List.mem_cons.1 hm with h | h
          · cases h
          · exact absurd (hd 46 h) (by decide)
        · rw [e] at hm
          exact absurd (hd 46 hm) (by decide)
    unfold lf
    rw [if_neg h1, if_neg h2, if_neg h3, hn]
    simp only [cut_dd (date_no ha (d := 46) (by decide) (by decide)), if_true, ha, hb, Bool.and_self]

/-- How a word can go on: at an end, or at a comma or a bracket. -/
def Fine (r : List UInt8) : Prop := ∀ c t, r = c :: t → nsep c = false

theorem sep_cases {c : UInt8} (h : nsep c = false) : c = 44 ∨ c = 93 := by
  by_cases e : c = 44
  · exact .inl e
  · unfold nsep at h
    simp [e] at h
    exact .inr h

theorem sep_no {c : UInt8} (h : nsep c = false) : dgB c = false ∧ c ≠ 45 ∧ c ≠ 46 := by
  rcases sep_cases h with rfl | rfl <;> decide

theorem hp_self (p r : List UInt8) : hasPrefix (p ++ r) p = true := hp_iff.2 ⟨r, rfl⟩

theorem hp_head {c : UInt8} {l p : List UInt8} {d : UInt8} (h : d ≠ c) : hasPrefix (c :: l) (d :: p) = false := by
  simp [hasPrefix, List.isPrefixOf, h]

theorem pDate_at {w r : List UInt8} (h : isDateF w = true) : pDate (w ++ r) = some ((dateR w).1, r, farB w) := by
  have h10 := (date_mem h).1
  unfold pDate
  rw [List.take_append_of_le_length (by omega), List.take_of_length_le (by omega), if_pos h, List.drop_append_of_le_length (by omega), List.drop_of_length_le (by omega)]
  rfl

theorem pDate_none {w r : List UInt8} (hr : Fine r) (h : ∀ q, w.take 10 = q → isDateF q = false) : pDate (w ++ r) = none := by
  unfold pDate
  rw [if_neg]
  intro hd
  by_cases hl : 10 ≤ w.length
  · rw [List.take_append_of_le_length hl, h _ rfl] at hd
    cases hd
  · cases r with
    | nil =>
      rw [List.append_nil, h _ rfl] at hd
      cases hd
    | cons c t =>
      have hs := sep_no (hr c t rfl)
      refine date_no hd hs.1 hs.2.1 ?_
      rw [List.take_append]
      rw [show 10 - w.length = (9 - w.length) + 1 by omega, List.take_succ_cons]
      simp

theorem pDays_none {w r : List UInt8} (hr : Fine r) (h : ∀ q, w.take 10 = q → isDateF q = false) : pDays (w ++ r) = none := by
  unfold pDays
  rw [pDate_none hr h]

theorem short_date {w : List UInt8} (h : w.length < 10) : isDateF w = false := by
  cases hd : isDateF w with
  | false => rfl
  | true => have := (date_mem hd).1; omega

theorem fine_dd {r : List UInt8} (hr : Fine r) : hasPrefix r [46, 46] = false := by
  cases r with
  | nil => rfl
  | cons c t => exact hp_head (fun e => (sep_no (hr c t rfl)).2.2 e.symm)

theorem takeWhile_at {p : UInt8 → Bool} : ∀ (d r : List UInt8), (∀ c ∈ d, p c = true) → (∀ c t, r = c :: t → p c = false) → (d ++ r).takeWhile p = d
  | [], [], _, _ => rfl
  | [], c :: t, _, h => by simp [h c t rfl]
  | c :: d, r, hd, hr => by
    rw [List.cons_append, List.takeWhile_cons_of_pos (hd c (by simp)), takeWhile_at d r (fun x hx => hd x (by simp [hx])) hr]

theorem dropWhile_at {p : UInt8 → Bool} : ∀ (d r : List UInt8), (∀ c ∈ d, p c = true) → (∀ c t, r = c :: t → p c = false) → (d ++ r).dropWhile p = r
  | [], [], _, _ => rfl
  | [], c :: t, _, h => by simp [h c t rfl]
  | c :: d, r, hd, hr => by
    rw [List.cons_append, List.dropWhile_cons_of_pos (hd c (by simp)), dropWhile_at d r (fun x hx => hd x (by simp [hx])) hr]

/-- What the reference finds, the program finds. -/
theorem pWord_of_wd {w r : List UInt8} {v : V} {f : Bool} (h : Wd w v f) (hr : Fine r) : pWord (w ++ r) = some (v, r, f) := by
  cases h with
  | minus =>
    have hb : bare ([45] ++ r) = true := by
      unfold bare
      rw [hp_self]
      cases r with
      | nil => rfl
      | cons c t => simp [(sep_no (hr c t rfl)).1]
    have e1 : hasPrefix ([45] ++ r) yesL = false := hp_head (by decide)
    have e2 : hasPrefix ([45] ++ r) noL = false := hp_head (by decide)
    unfold pWord
    rw [e1, e2, pDays_none hr (fun q hq => short_date (by rw [← hq]; decide))]
    simp only [Bool.false_eq_true, if_false, hb, if_true]
    rfl
  | yes =>
    unfold pWord
    rw [if_pos (hp_self _ _)]
    rfl
  | no =>
    have e1 : hasPrefix (noL ++ r) yesL = false := hp_head (by decide)
    unfold pWord
    rw [e1, if_neg (by decide), if_pos (hp_self _ _)]
    rfl
  | @num _ n hn =>
    obtain ⟨d, h0, hd, e⟩ := num10_form hn
    have hcl : ∀ c t, r = c :: t → dgB c = false := fun c t e => (sep_no (hr c t e)).1
    have hdays : pDays (w ++ r) = none := pDays_none hr (fun q hq => by
      cases hf : isDateF q with
      | false => rfl
      | true =>
        exfalso
        obtain ⟨h10, h4, -, hall⟩ := date_mem hf
        have hlen : 10 ≤ w.length := by rw [← hq, List.length_take] at h10; omega
        have h4' : w.getD 4 0 = 45 := by
          rw [← h4, ← hq, List.getD_eq_getElem?_getD, List.getD_eq_getElem?_getD, List.getElem?_take_of_lt (by omega)]
        have : ∀ x : List UInt8, 5 ≤ x.length → (∀ c ∈ x, dgB c = true) → x.getD 3 0 ≠ 45 ∧ x.getD 4 0 ≠ 45 := fun x hx hall => by
          constructor <;>
          · rw [List.getD_eq_getElem?_getD, List.getElem?_eq_getElem (by omega)]
            exact dgB_ne (hall _ (List.getElem_mem _)) (by decide)
        rcases e with rfl | rfl
        · simp only [List.length_cons] at hlen
          exact absurd (by simpa using h4') (this d (by omega) hd).1
        · exact absurd h4' (this w (by omega) hd).2)
    have hlen : numLen (w ++ r) = w.length := by
      unfold numLen
      rcases e with rfl | rfl
      · rw [if_pos (by simp [hasPrefix, List.isPrefixOf]), List.cons_append, List.tail_cons, takeWhile_at d r hd hcl]
        simp; omega
      · have : hasPrefix (w ++ r) [45] = false := by
          cases w with
          | nil => exact absurd rfl h0
          | cons c t => exact hp_head (fun e => by have := hd c (by simp); rw [← e] at this; revert this; decide)
        rw [this, if_neg (by decide), takeWhile_at w r hd hcl]
    have hb : bare (w ++ r) = false := by
      unfold bare
      rcases e with rfl | rfl
      · cases d with
        | nil => exact absurd rfl h0
        | cons c t => simp [hd c (by simp)]
      · have : hasPrefix (w ++ r) [45] = false := by
          cases w with
          | nil => exact absurd rfl h0
          | cons c t => exact hp_head (fun e => by have := hd c (by simp); rw [← e] at this; revert this; decide)
        rw [this]; rfl
    have hhd : ∀ (x : UInt8) (p : List UInt8), dgB x = false → x ≠ 45 → hasPrefix (w ++ r) (x :: p) = false := fun x p hx h45 => by
      rcases e with rfl | rfl
      · exact hp_head h45
      · cases w with
        | nil => exact absurd rfl h0
        | cons c t => exact hp_head (fun e => by have := hd c (by simp); rw [← e, hx] at this; cases this)
    unfold pWord
    rw [show hasPrefix (w ++ r) yesL = false from hhd 121 [101, 115] (by decide) (by decide), show hasPrefix (w ++ r) noL = false from hhd 110 [111] (by decide) (by decide), hdays]
    simp only [Bool.false_eq_true, if_false, hb]
    unfold pNum
    rw [hlen, List.take_left, List.drop_left, hn]
  | date hd =>
    obtain ⟨h10, -, ⟨c, t, rfl, hc⟩, -⟩ := date_mem hd
    have e1 : hasPrefix (c :: t ++ r) yesL = false := hp_head (fun e => by rw [← e] at hc; revert hc; decide)
    have e2 : hasPrefix (c :: t ++ r) noL = false := hp_head (fun e => by rw [← e] at hc; revert hc; decide)
    unfold pWord pDays
    rw [e1, e2, pDate_at hd]
    simp [fine_dd hr]
  | @span a b ha hb =>
    obtain ⟨h10, -, ⟨c, t, rfl, hc⟩, -⟩ := date_mem ha
    have e1 : hasPrefix (c :: t ++ 46 :: 46 :: b ++ r) yesL = false := hp_head (fun e => by rw [← e] at hc; revert hc; decide)
    have e2 : hasPrefix (c :: t ++ 46 :: 46 :: b ++ r) noL = false := hp_head (fun e => by rw [← e] at hc; revert hc; decide)
    unfold pWord pDays
    rw [e1, e2, List.append_assoc, pDate_at ha]
    have e3 : hasPrefix ((46 :: 46 :: b) ++ r) [46, 46] = true := hp_self [46, 46] (b ++ r)
    simp only [Bool.false_eq_true, if_false, e3, if_true]
    unfold pTo
    rw [show ((46 :: 46 :: b) ++ r).drop 2 = b ++ r from rfl, pDate_at hb]

theorem nsep_dg {c : UInt8} (h : dgB c = true) : nsep c = true := by
  cases hn : nsep c with
  | true => rfl
  | false => have := (sep_no hn).1; rw [h] at this; cases this

theorem nsep_date {l : List UInt8} (h : isDateF l = true) : ∀ c ∈ l, nsep c = true := fun c hc => by
  rcases (date_mem h).2.2.2 c hc with rfl | e
  · rfl
  · exact nsep_dg e

theorem nsep_wd {w : List UInt8} {v : V} {f : Bool} (h : Wd w v f) : ∀ c ∈ w, nsep c = true := by
  cases h with
  | minus => decide
  | yes => decide
  | no => decide
  | num hn =>
    obtain ⟨d, h0, hd, e⟩ := num10_form hn
    intro c hc
    rcases e with rfl | rfl
    · rcases List.mem_cons.1 hc with rfl | hc
      · rfl
      · exact nsep_dg (hd c hc)
    · exact nsep_dg (hd c hc)
  | date hd => exact nsep_date hd
  | @span a b ha hb =>
    intro c hc
    simp only [List.mem_append, List.mem_cons] at hc
    rcases hc with hc | rfl | rfl | hc
    · exact nsep_date ha c hc
    · rfl
    · rfl
    · exact nsep_date hb c hc

/-- What the program finds is a word. -/
theorem wd_of_pWord {l r : List UInt8} {v : V} {f : Bool} (h : pWord l = some (v, r, f)) : ∃ w, l = w ++ r ∧ Wd w v f := by
  unfold pWord at h
  split at h
  · rename_i e
    obtain ⟨t, rfl⟩ := hp_iff.1 e
    cases h
    exact ⟨yesL, rfl, .yes⟩
  · split at h
    · rename_i e
      obtain ⟨t, rfl⟩ := hp_iff.1 e
      cases h
      exact ⟨noL, rfl, .no⟩
    · cases hd : pDays l with
      | some x =>
        rw [hd] at h
        simp only at h
        subst h
        unfold pDays pDate at hd
        by_cases hf : isDateF (l.take 10) = true
        · rw [if_pos hf] at hd
          simp only [Option.some.injEq] at hd
          split at hd
          · rename_i hdd
            obtain ⟨t, ht⟩ := hp_iff.1 hdd
            unfold pTo pDate at hd
            rw [ht] at hd
            by_cases hg : isDateF ((([46, 46] ++ t).drop 2).take 10) = true
            · rw [if_pos hg] at hd
              cases hd
              refine ⟨l.take 10 ++ 46 :: 46 :: t.take 10, ?_, .span hf hg⟩
              have e1 : l = l.take 10 ++ l.drop 10 := (List.take_append_drop 10 l).symm
              have e2 : t = t.take 10 ++ t.drop 10 := (List.take_append_drop 10 t).symm
              rw [ht] at e1
              have e3 : (([46, 46] ++ t).drop 2).drop 10 = t.drop 10 := rfl
              rw [e3, List.append_assoc, List.cons_append, List.cons_append, ← e2]
              exact e1
            · rw [if_neg hg] at hd
              cases hd
          · cases hd
            exact ⟨l.take 10, (List.take_append_drop 10 l).symm, .date hf⟩
        · rw [if_neg hf] at hd
          cases hd
      | none =>
        rw [hd] at h
        simp only at h
        split at h
        · rename_i hb
          cases h
          unfold bare at hb
          rw [Bool.and_eq_true] at hb
          obtain ⟨t, rfl⟩ := hp_iff.1 hb.1
          exact ⟨[45], rfl, .minus⟩
        · unfold pNum at h
          cases hn : num10 (l.take (numLen l)) with
          | none => rw [hn] at h; cases h
          | some n =>
            rw [hn] at h
            cases h
            exact ⟨_, (List.take_append_drop (numLen l) l).symm, .num hn⟩

/-- A word at the beginning, as the reference parts it. -/
def rWord (l : List UInt8) : Got := match lf (l.takeWhile nsep) with
  | some (v, f) => some (v, l.dropWhile nsep, f)
  | none => none

theorem word_all {l : List UInt8} {v : V} {f : Bool} : pWord l = some (v, [], f) ↔ lf l = some (v, f) := by
  constructor
  · intro h
    obtain ⟨w, rfl, hw⟩ := wd_of_pWord h
    rw [List.append_nil]
    exact lf_of_wd hw
  · intro h
    have := pWord_of_wd (r := []) (wd_of_lf h) (fun c t e => by cases e)
    rwa [List.append_nil] at this

theorem word_part {l r : List UInt8} {v : V} {f : Bool} (hr : Fine r) (h0 : r ≠ []) : pWord l = some (v, r, f) ↔ rWord l = some (v, r, f) := by
  constructor
  · intro h
    obtain ⟨w, rfl, hw⟩ := wd_of_pWord h
    unfold rWord
    rw [takeWhile_at w r (nsep_wd hw) hr, dropWhile_at w r (nsep_wd hw) hr, lf_of_wd hw]
  · intro h
    unfold rWord at h
    cases hl : lf (l.takeWhile nsep) with
    | none => rw [hl] at h; cases h
    | some q =>
      rw [hl] at h
      obtain ⟨v', f'⟩ := q
      cases h
      have e : l.takeWhile nsep ++ l.dropWhile nsep = l := List.takeWhile_append_dropWhile
      have := pWord_of_wd (wd_of_lf hl) hr
      rwa [e] at this

end Go.Proofs.YtdncmjlakmkfiaaGreatDoor
/-
  PLAIN: strings, links, lists and whole values that are read: both ways find the same.
-/
namespace Go.Proofs.YtdncmjlakmkfiaaGreatDoor
open Go.Lib

/-- A string behind its first mark: its text, and how it goes on. -/
def qt : List UInt8 → List UInt8 → Option (List UInt8 × List UInt8)
  | _, [] => none
  | acc, [c] => if c = 34 then some (acc, []) else none
  | acc, c :: d :: r => if c = 34 then some (acc, d :: r) else if c = 92 then (if d = 34 ∨ d = 92 then qt (acc ++ [d]) r else none) else qt (acc ++ [c]) (d :: r)
termination_by _ l => l.length

def pQ (l : List UInt8) : Got := match qt [] l with
  | some (t, r) => some (vStr t, r, false)
  | none => none

def pLk (l : List UInt8) : Got := if index l [93, 93] < 2 then none else some (vLink ((l.drop 2).take ((index l [93, 93]).toNat - 2)), l.drop ((index l [93, 93]).toNat + 2), false)

/-- An item, as the program reads it; as the reference does. -/
def pItem (l : List UInt8) : Got := if hasPrefix l [91, 91] = true then pLk l else if hasPrefix l [91] = true then none else if hasPrefix l [34] = true then pQ (l.drop 1) else pWord l

def rItem (l : List UInt8) : Got := if hasPrefix l [34] = true then pQ (l.drop 1) else if hasPrefix l [91, 91] = true then pLk l else rWord l

/-- Items up to the bracket. -/
def pRow (I : List UInt8 → Got) : Nat → List V → Bool → List UInt8 → Got
  | 0, _, _, _ => none
  | n + 1, acc, f, l => match I l with
    | some (x, r, f2) => if hasPrefix r [93] = true then some (vList (acc ++ [x]), r.drop 1, f || f2) else if hasPrefix r [44, 32] = true then pRow I n (acc ++ [x]) (f || f2) (r.drop 2) else none
    | none => none

def pList (I : List UInt8 → Got) (l : List UInt8) : Got := if hasPrefix l [93] = true then some (vList [], l.drop 1, false) else pRow I (l.length + 1) [] false l

/-- A value, as the program reads it; as the reference does. -/
def pVal (l : List UInt8) : Got := if (hasPrefix l [91, 91] && !hasPrefix l [91, 91, 91]) = true then pLk l else if hasPrefix l [91] = true then pList pItem (l.drop 1) else if hasPrefix l [34] = true then pQ (l.drop 1) else pWord l

def rTop (l : List UInt8) : Got := match lf l with
  | some (v, f) => some (v, [], f)
  | none => none

def rVal (l : List UInt8) : Got := if hasPrefix l [34] = true then pQ (l.drop 1) else if (hasPrefix l [91, 91] && !hasPrefix l [91, 91, 91]) = true then pLk l else if hasPrefix l [91] = true then pList rItem (l.drop 1) else rTop l

/-- What reading a whole string hands out: the value, and what is wrong. -/
def rdV (l : List UInt8) : V × Int := match pVal l with
  | some (v, [], false) => (v, 0)
  | some (_, [], true) => (vN, 2)
  | _ => (vN, 8)

theorem wd_head {w : List UInt8} {v : V} {f : Bool} (h : Wd w v f) : ∃ c t, w = c :: t ∧ c ≠ 91 ∧ c ≠ 34 := by
  have hdg : ∀ {c : UInt8}, dgB c = true → c ≠ 91 ∧ c ≠ 34 := fun h => ⟨dgB_ne h (by decide), dgB_ne h (by decide)⟩
  cases h with
  | minus => exact ⟨45, [], rfl, by decide, by decide⟩
  | yes => exact ⟨121, _, rfl, by decide, by decide⟩
  | no => exact ⟨110, _, rfl, by decide, by decide⟩
  | num hn =>
    obtain ⟨d, h0, hd, e⟩ := num10_form hn
    rcases e with rfl | rfl
    · exact ⟨45, d, rfl, by decide, by decide⟩
    · cases w with
      | nil => exact absurd rfl h0
      | cons c t => exact ⟨c, t, rfl, hdg (hd c (by simp))⟩
  | date hd =>
    obtain ⟨-, -, ⟨c, t, rfl, hc⟩, -⟩ := date_mem hd
    exact ⟨c, t, rfl, hdg hc⟩
  | span ha hb =>
    obtain ⟨-, -, ⟨c, t, rfl, hc⟩, -⟩ := date_mem ha
    exact ⟨c, _, rfl, hdg hc⟩

theorem hp_cons {l p : List UInt8} {c : UInt8} (h : hasPrefix l (c :: p) = true) : ∃ t, l = c :: t := by
  obtain ⟨r, rfl⟩ := hp_iff.1 h
  exact ⟨p ++ r, rfl⟩

/-- How an item goes on. -/
def good (r : List UInt8) : Prop := hasPrefix r [93] = true ∨ hasPrefix r [44, 32] = true

theorem good_fine {r : List UInt8} (h : good r) : Fine r ∧ r ≠ [] := by
  rcases h with h | h <;> obtain ⟨t, rfl⟩ := hp_cons h <;> exact ⟨fun c t e => by cases e; rfl, by simp⟩

theorem item_part {l r : List UInt8} {v : V} {f : Bool} (hr : good r) : pItem l = some (v, r, f) ↔ rItem l = some (v, r, f) := by
  obtain ⟨h1, h2⟩ := good_fine hr
  unfold pItem rItem
  by_cases e34 : hasPrefix l [34] = true
  · obtain ⟨t, rfl⟩ := hp_cons e34
    have e1 : hasPrefix (34 :: t) [91, 91] = false := hp_head (by decide)
    have e2 : hasPrefix (34 :: t) [91] = false := hp_head (by decide)
    rw [e1, e2, if_pos e34, if_pos e34]
    simp
  · rw [if_neg e34, if_neg e34]
    by_cases e2 : hasPrefix l [91, 91] = true
    · rw [if_pos e2, if_pos e2]
    · rw [if_neg e2, if_neg e2]
      by_cases e1 : hasPrefix l [91] = true
      · rw [if_pos e1]
        refine ⟨(fun h => by cases h), fun h => ?_⟩
        exfalso
        obtain ⟨w, hw, hd⟩ := wd_of_pWord ((word_part h1 h2).2 h)
        obtain ⟨c, t, rfl, hc, -⟩ := wd_head hd
        obtain ⟨t2, rfl⟩ := hp_cons e1
        cases hw
        exact hc rfl
      · rw [if_neg e1]
        exact word_part h1 h2

theorem row_step {I J : List UInt8 → Got} (h : ∀ l r v f, good r → (I l = some (v, r, f) ↔ J l = some (v, r, f))) : ∀ (n : Nat) (acc : List V) (f : Bool) (l : List UInt8), pRow I n acc f l = pRow J n acc f l
  | 0, _, _, _ => rfl
  | n + 1, acc, f, l => by
    have bad : ∀ {K : List UInt8 → Got} {x r f2}, K l = some (x, r, f2) → ¬ good r → pRow K (n + 1) acc f l = none := fun hk hg => by
      unfold pRow
      rw [hk]
      simp only
      rw [if_neg (fun e => hg (.inl e)), if_neg (fun e => hg (.inr e))]
    have nix : ∀ {K : List UInt8 → Got}, K l = none → pRow K (n + 1) acc f l = none := fun hk => by
      unfold pRow
      rw [hk]
    have same : ∀ {x r f2}, I l = some (x, r, f2) → J l = some (x, r, f2) → pRow I (n + 1) acc f l = pRow J (n + 1) acc f l := fun hi hj => by
      unfold pRow
      rw [hi, hj]
      simp only
      rw [row_step h n]
    cases hi : I l with
    | none =>
      rw [nix hi]
      cases hj : J l with
      | none => rw [nix hj]
      | some q =>
        obtain ⟨x, r, f2⟩ := q
        by_cases hg : good r
        · rw [(h l r x f2 hg).2 hj] at hi; cases hi
        · rw [bad hj hg]
    | some q =>
      obtain ⟨x, r, f2⟩ := q
      by_cases hg : good r
      · exact same hi ((h l r x f2 hg).1 hi)
      · cases hj : J l with
        | none => rw [bad hi hg, nix hj]
        | some q' =>
          obtain ⟨x', r', f2'⟩ := q'
          by_cases hg' : good r'
          · exact same ((h l r' x' f2' hg').2 hj) hj
          · rw [bad hi hg, bad hj hg']

theorem list_same (l : List UInt8) : pList pItem l = pList rItem l := by
  unfold pList
  rw [row_step (fun l r v f hg => item_part hg)]

theorem val_all {l : List UInt8} {v : V} {f : Bool} : pVal l = some (v, [], f) ↔ rVal l = some (v, [], f) := by
  unfold pVal rVal
  by_cases e34 : hasPrefix l [34] = true
  · obtain ⟨t, rfl⟩ := hp_cons e34
    have e1 : hasPrefix (34 :: t) [91, 91] = false := hp_head (by decide)
    have e2 : hasPrefix (34 :: t) [91] = false := hp_head (by decide)
    rw [e1, e2, if_pos e34, if_pos e34]
    simp
  · rw [if_neg e34, if_neg e34]
    by_cases e2 : (hasPrefix l [91, 91] && !hasPrefix l [91, 91, 91]) = true
    · rw [if_pos e2, if_pos e2]
    · rw [if_neg e2, if_neg e2]
      by_cases e1 : hasPrefix l [91] = true
      · rw [if_pos e1, if_pos e1, list_same]
      · rw [if_neg e1, if_neg e1, word_all]
        unfold rTop
        cases lf l with
        | none => simp
        | some q => simp [Prod.ext_iff]

/-- The reference's answer at a whole string. -/
theorem rdV_ref (l : List UInt8) : (∃ v, rVal l = some (v, [], false) ∧ rdV l = (v, 0)) ∨ (∃ v, rVal l = some (v, [], true) ∧ rdV l = (vN, 2)) ∨ ((rVal l = none ∨ ∃ v c r f, rVal l = some (v, c :: r, f)) ∧ rdV l = (vN, 8)) := by
  cases h : rVal l with
  | none =>
    refine .inr (.inr ⟨.inl rfl, ?_⟩)
    unfold rdV
    split
    · rename_i v hp; rw [val_all.1 hp] at h; cases h
    · rename_i v hp; rw [val_all.1 hp] at h; cases h
    · rfl
  | some q =>
    obtain ⟨v, r, f⟩ := q
    cases r with
    | nil =>
      have hp := val_all.2 h
      cases f
      · exact .inl ⟨v, rfl, by unfold rdV; rw [hp]⟩
      · exact .inr (.inl ⟨v, rfl, by unfold rdV; rw [hp]⟩)
    | cons c r =>
      refine .inr (.inr ⟨.inr ⟨v, c, r, f, rfl⟩, ?_⟩)
      unfold rdV
      split
      · rename_i v hp; rw [val_all.1 hp] at h; cases h
      · rename_i v hp; rw [val_all.1 hp] at h; cases h
      · rfl

end Go.Proofs.YtdncmjlakmkfiaaGreatDoor
