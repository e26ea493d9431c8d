/-
  PLAIN: a rule that is read word by word: what is left to be read, and how it goes on.
-/
import Derived.Test.YtjaoiehjhnmahaaGreatDoorDrp
import Derived.Test.YtjaoiehjhnmahaaGreatDoorRlb
import Derived.Lib.SlicesS
set_option linter.all false
namespace Go.Proofs.YtjaoiehjhnmahaaGreatDoor
open Go.Lib

def wEvery : ByteArray := ⟨#[101, 118, 101, 114, 121]⟩

def wFrom : ByteArray := ⟨#[102, 114, 111, 109]⟩

def wUntil : ByteArray := ⟨#[117, 110, 116, 105, 108]⟩

def wTimes : ByteArray := ⟨#[116, 105, 109, 101, 115]⟩

def wOn : ByteArray := ⟨#[111, 110]⟩

def wDates : ByteArray := ⟨#[100, 97, 116, 101, 115]⟩

def wSkip : ByteArray := ⟨#[115, 107, 105, 112]⟩

def unitsL : List ByteArray := [⟨#[100, 97, 121]⟩, ⟨#[119, 101, 101, 107]⟩, ⟨#[109, 111, 110, 116, 104]⟩, ⟨#[121, 101, 97, 114]⟩]

def wdaysL : List ByteArray := [⟨#[109, 111, 110]⟩, ⟨#[116, 117, 101]⟩, ⟨#[119, 101, 100]⟩, ⟨#[116, 104, 117]⟩, ⟨#[102, 114, 105]⟩, ⟨#[115, 97, 116]⟩, ⟨#[115, 117, 110]⟩]

/-- Whether the next word is this one; the words behind it. -/
def tkB (s : ByteArray) : List ByteArray → Bool
  | x :: _ => decide (x = s)
  | [] => false

def tkL (s : ByteArray) (L : List ByteArray) : List ByteArray := if tkB s L = true then L.tail else L

theorem tk_cases (s : ByteArray) (L : List ByteArray) : (L = [] ∧ tkB s L = false ∧ tkL s L = []) ∨ (∃ x r, L = x :: r ∧ x ≠ s ∧ tkB s L = false ∧ tkL s L = x :: r) ∨ ∃ r, L = s :: r ∧ tkB s L = true ∧ tkL s L = r := by
  cases L with
  | nil => exact .inl ⟨rfl, rfl, rfl⟩
  | cons x r =>
    by_cases h : x = s
    · subst h
      exact .inr (.inr ⟨r, rfl, decide_eq_true rfl, by simp [tkL, tkB]⟩)
    · exact .inr (.inl ⟨x, r, rfl, h, decide_eq_false h, by simp [tkL, tkB, h]⟩)

/-- A word as a number; as a day. -/
def nm (x : ByteArray) : Option Int := num x.data.toList

def dt (x : ByteArray) : Option Int := if (dateR x.data.toList).2 = 0 then some (dateR x.data.toList).1 else none

/-- Where a word is in a row of words; -1 if nowhere. -/
def at1 (l : List ByteArray) (x : ByteArray) : Option Int := if idxOfS l x < 0 then none else some (idxOfS l x)

def hasS (x s : ByteArray) : Bool := hasSuffix x.data.toList s.data.toList

def cutS (x s : ByteArray) : ByteArray := ⟨(trimSuffix x.data.toList s.data.toList).toArray⟩

def wS : ByteArray := ⟨#[115]⟩

def wTh : ByteArray := ⟨#[116, 104]⟩

/-- A unit's number, by its word: with s at its end if it is not every one. -/
def un (e : Int) (x : ByteArray) : Option Int := if e = 1 then (at1 unitsL x).map (· + 1) else if hasS x wS = true then (at1 unitsL (cutS x wS)).map (· + 1) else none

/-- The number of the weekday, with th. -/
def nth (x : ByteArray) : Option Int := match nm (cutS x wTh) with
  | some k => if k = 0 then none else some k
  | none => none

def wk (x : ByteArray) : Option Int := at1 wdaysL x

/-- The next word, read. -/
def rdO (f : ByteArray → Option Int) : List ByteArray → Option Int
  | x :: _ => f x
  | [] => none

/-- As many words as can be read. -/
def spn (f : ByteArray → Option Int) : List ByteArray → List Int × List ByteArray
  | [] => ([], [])
  | x :: r => match f x with
    | some n => (n :: (spn f r).1, (spn f r).2)
    | none => ([], x :: r)

theorem spn_le (f : ByteArray → Option Int) : ∀ L, (spn f L).1.length ≤ L.length
  | [] => Nat.le_refl _
  | x :: r => by
    unfold spn
    cases f x with
    | none => simp
    | some n => have := spn_le f r; simp only [List.length_cons]; omega

def P8 (L : List ByteArray) (r : Rul) : Option Rul := if L = [] then some r else none

def P7 (L : List ByteArray) (r : Rul) : Option Rul :=
  if tkB wSkip L = true then (if (spn dt L.tail).1 = [] then none else P8 (spn dt L.tail).2 { r with sk := (spn dt L.tail).1 }) else P8 L r

def P6 (L : List ByteArray) (r : Rul) : Option Rul :=
  if tkB wDates L = true then (if (spn nm L.tail).1 = [] then none else P7 (spn nm L.tail).2 { r with da := (spn nm L.tail).1 }) else P7 L r

def P5b (L : List ByteArray) (r : Rul) : Option Rul := if (spn wk L).1 = [] then none else P6 (spn wk L).2 { r with wd := (spn wk L).1 }

/-- Whether the next word ends in th. -/
def thB : List ByteArray → Bool
  | x :: _ => hasS x wTh
  | [] => false

def P5a (L : List ByteArray) (r : Rul) : Option Rul :=
  if thB L = true then (match rdO nth L with | some k => P5b L.tail { r with n := k } | none => none) else P5b L r

def P5 (L : List ByteArray) (r : Rul) : Option Rul := if tkB wOn L = true then P5a L.tail r else P6 L r

def P4a (L : List ByteArray) (r : Rul) : Option Rul := match rdO nm L with
  | some k => if k = 0 then none else P5 L.tail { r with c := k }
  | none => none

def P4 (L : List ByteArray) (r : Rul) : Option Rul := if tkB wTimes L = true then P4a L.tail r else P5 L r

def P3a (L : List ByteArray) (r : Rul) : Option Rul := match rdO dt L with
  | some k => P4 L.tail { r with t := k }
  | none => none

def P3 (L : List ByteArray) (r : Rul) : Option Rul := if tkB wUntil L = true then P3a L.tail r else P4 L r

def P2a (L : List ByteArray) (r : Rul) : Option Rul := match rdO dt L with
  | some k => P3 L.tail { r with f := k }
  | none => none

def P2 (L : List ByteArray) (r : Rul) : Option Rul := if tkB wFrom L = true then P2a L.tail r else none

def P1 (L : List ByteArray) (r : Rul) : Option Rul := match rdO (un r.e) L with
  | some k => P2 L.tail { r with u := k }
  | none => none

def P0 (L : List ByteArray) (r : Rul) : Option Rul := match rdO nm L with
  | some k => P1 L.tail { r with e := k }
  | none => none

def rul0 : Rul := ⟨0, 0, 0, -1, 0, 0, [], [], []⟩

/-- The rule that words are. -/
def parseR (L : List ByteArray) : Option Rul := if tkB wEvery L = true then P0 L.tail rul0 else none

/-- What is found out so far: bad, or how it goes on. -/
def Goes (O : Option Rul) (b : Bool) (q : Option Rul) : Prop := O = if b = true then none else q

theorem Goes.bad {O q q' : Option Rul} (h : Goes O true q) : Goes O true q' := h

theorem goes_start (L : List ByteArray) : Goes (parseR L) (!tkB wEvery L) (P0 (tkL wEvery L) rul0) := by
  unfold Goes parseR tkL
  cases tkB wEvery L <;> rfl

/-- A word is read by f, or all is bad. -/
theorem goes_read {O : Option Rul} {b : Bool} {o : Option Int} {P : Int → Option Rul} (h : Goes O b (match o with | some k => P k | none => none)) (k : Int) (hk : ∀ n, o = some n → k = n) : Goes O (b || o.isNone) (P k) := by
  unfold Goes at *
  cases b with
  | true => exact h
  | false =>
    cases o with
    | none => exact h
    | some n =>
      obtain rfl := hk n rfl
      exact h

theorem goes_if {O : Option Rul} {b c : Bool} {p : Option Rul} (h : Goes O b (if c = true then p else none)) : Goes O (b || !c) p := by
  unfold Goes at *
  cases b <;> cases c <;> exact h

theorem goes_not {O : Option Rul} {b c : Bool} {p : Option Rul} (h : Goes O b (if c = true then none else p)) : Goes O (b || c) p := by
  unfold Goes at *
  cases b <;> cases c <;> exact h

theorem goes_ifn {O : Option Rul} {b : Bool} {l : List Int} {p : Option Rul} (h : Goes O b (if l = [] then none else p)) : Goes O (b || decide (l.length = 0)) p := by
  unfold Goes at *
  cases b with
  | true => exact h
  | false => cases l <;> exact h

def rulZ : Rul := ⟨0, 0, 0, 0, 0, 0, [], [], []⟩

def wordsR (s : ByteArray) : List ByteArray := splitB ⟨#[32]⟩ 0 (countB s ⟨#[32]⟩) s

theorem wordsR_len (s : ByteArray) : (wordsR s).length = countB s ⟨#[32]⟩ + 1 := splitB_all ⟨#[32]⟩ (by decide) 0 _ s rfl

/-- What reading a rule answers. -/
def readR (s : ByteArray) : Rul × Int := if 2000 < s.size then (rulZ, 4) else match parseR (wordsR s) with
  | some r => if r.err = 0 then (r, 0) else (rulZ, r.err)
  | none => (rulZ, 8)

end Go.Proofs.YtjaoiehjhnmahaaGreatDoor
