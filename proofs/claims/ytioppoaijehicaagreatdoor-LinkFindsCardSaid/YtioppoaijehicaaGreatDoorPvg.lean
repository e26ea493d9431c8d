/-
  WALKS: what is asked of a text: control bytes, letters among others, cut sides.
-/
import Derived.Test.YtioppoaijehicaaGreatDoorIxc
import Derived.Test.YtioppoaijehicaaGreatDoorDayA
set_option linter.all false
namespace Go.Proofs
open Go.Shelf Go.RowKit

theorem Tryz.trim_any (s cutset : ByteArray) (w : World) (hs : s.size ≤ 9223372036854775807) (hcs : cutset.size < 4294967281)
    (hascii : (cutset.data.toList.all fun b => decide (b.toNat < 128)) = true) :
    Calls Tryz.prog 141 #[.string s, .string cutset] w fun e w' => e = .returned (.string ⟨(Lib.trimS s.data.toList cutset.data.toList).toArray⟩) ∧ Below w.heap.size w w' :=
  Any.strings_Trim_laid Tryz.trimL (by kernel_rfl) s cutset w hs hcs (fun _ b hb => of_decide_eq_true (List.all_eq_true.1 hascii b (List.mem_of_getElem? hb)))
end Go.Proofs
namespace Go.Proofs.YtioppoaijehicaaGreatDoor
open Go.RowKit Go.Lib

def ctlP (x : Nat) : Bool := decide (x < 32) || (x == 127)

/-- Has a text a control byte? -/
def ctl (s : ByteArray) : Bool := decide (0 ≤ Lib.idxFunc ctlP true s)

set_option maxHeartbeats 800000 in
theorem ctlA_any (x : Nat) (hx : x ≤ 1114111) (w : World) : Calls Tryz.prog 219 #[.int .i32 x] w fun e w' => e = .returned (.bool (ctlP x)) ∧ w' = w := by
  unfold ctlP
  by_cases h : x < 32
  · have h2 : (x : Int) < 32 := by omega
    go_enter Tryz.func219, Tryz.ntmps219
    go_wp2
    go_ret
    exact ⟨by simp [h], rfl⟩
  · have h2 : ¬ (x : Int) < 32 := by omega
    have h3 : ((x : Int) == 127) = (x == 127) := by
      by_cases e : x = 127
      · subst e; rfl
      · rw [beq_eq_false_iff_ne.2 e, beq_eq_false_iff_ne.2 (by omega)]
    go_enter Tryz.func219, Tryz.ntmps219
    go_wp2
    go_ret
    exact ⟨by simp [h], rfl⟩

theorem predA (w : World) : PredAtRunes Tryz.prog 219 #[] ctlP w := fun W x hx _ =>
  (ctlA_any x hx W).mono fun _ _ ⟨he, hw⟩ => ⟨he, 0, by rw [hw]; rfl⟩

theorem hasControl_any (s : ByteArray) (w : World) : Calls Tryz.prog 188 #[.string s] w fun e w' => e = .returned (.bool (ctl s)) ∧ Below w.heap.size w w' := by
  have H := hide (fun w => Any.strings_ContainsFunc_runes Tryz.cfunL 219 #[] (fun args w => Go.Proofs.enters_of Tryz.func219 (by kernel_rfl) rfl args w) ctlP s w (predA w))
  unfold ctl
  go_enter Tryz.func188, Tryz.ntmps188
  go_wp2_with (go_at_call 218; refine (H.out _).mono ?_; rintro e w' ⟨rfl, hb⟩; have HB := hide hb; clear hb)
  go_ret
  exact ⟨rfl, HB.out⟩

theorem containsAny_any (s chars : ByteArray) (w : World) (h2 : 2 ≤ chars.size) (hc : chars.size ≤ 1000) (hs : s.size < 4294967281) (ha : Ascii chars) :
    Calls Tryz.prog 189 #[.string s, .string chars] w fun e w' => e = .returned (.bool (Lib.containsAny s.data.toList chars.data.toList)) ∧ Below w.heap.size w w' := by
  have H := hide (fun w => indexAny_any s chars w h2 hc hs ha)
  unfold Lib.containsAny
  clear ha
  generalize Lib.indexAny s.data.toList chars.data.toList = k at *
  go_enter Tryz.func189, Tryz.ntmps189
  go_wp2_with (go_at_call 160; refine (H.out _).mono ?_; rintro e w' ⟨rfl, hb⟩; have HB := hide hb; clear hb)
  go_ret
  exact ⟨rfl, HB.out⟩

end Go.Proofs.YtioppoaijehicaaGreatDoor
/-
  PLAIN AND WALKS: the name of a property, in the program and in the reference.
-/
namespace Go.Proofs.YtioppoaijehicaaGreatDoor
open Go.RowKit Go.Lib

def nameChar (b : UInt8) : Bool := decide (97 ≤ b.toNat ∧ b.toNat ≤ 122) || (decide (48 ≤ b.toNat ∧ b.toNat ≤ 57) || decide (b.toNat = 45))

def isName (l : List UInt8) : Bool := match l with
  | [] => false
  | b :: r => decide (r.length < 20) && (decide (97 ≤ b.toNat ∧ b.toNat ≤ 122) && (b :: r).all nameChar)

def nameErr (s : ByteArray) : Int := if isName s.data.toList = true then 0 else 3

def nameSet : List UInt8 := [97, 98, 99, 100, 101, 102, 103, 104, 105, 106, 107, 108, 109, 110, 111, 112, 113, 114, 115, 116, 117, 118, 119, 120, 121, 122, 48, 49, 50, 51, 52, 53, 54, 55, 56, 57, 45]

theorem nameSet_contains (b : UInt8) : nameSet.contains b = nameChar b := by
  have h : ∀ n : Fin 256, nameSet.contains (UInt8.ofNat n.val) = nameChar (UInt8.ofNat n.val) := by decide +kernel
  have := h ⟨b.toNat, UInt8.toNat_lt b⟩
  simpa using this

theorem dropWhile_nil_of {α : Type} (p : α → Bool) : ∀ l : List α, l.dropWhile p = [] → ∀ x ∈ l, p x = true
  | [], _, x, hx => by cases hx
  | a :: t, h, x, hx => by
    by_cases ha : p a = true
    · rw [List.dropWhile_cons_of_pos ha] at h
      rcases List.mem_cons.1 hx with rfl | hx
      · exact ha
      · exact dropWhile_nil_of p t h x hx
    · rw [List.dropWhile_cons_of_neg ha] at h
      cases h

theorem dropWhile_all {α : Type} (p : α → Bool) : ∀ l : List α, (∀ x ∈ l, p x = true) → l.dropWhile p = []
  | [], _ => rfl
  | a :: t, h => by
    rw [List.dropWhile_cons_of_pos (h a (List.mem_cons_self ..))]
    exact dropWhile_all p t (fun x hx => h x (List.mem_cons_of_mem _ hx))

theorem dropWhile_head_of {α : Type} (p : α → Bool) : ∀ (l : List α) (a : α) (t : List α), l.dropWhile p = a :: t → p a = false
  | [], a, t, h => by cases h
  | b :: l, a, t, h => by
    by_cases hb : p b = true
    · rw [List.dropWhile_cons_of_pos hb] at h
      exact dropWhile_head_of p l a t h
    · rw [List.dropWhile_cons_of_neg hb] at h
      cases h
      simpa using hb

theorem trimS_empty (d cs : List UInt8) : (Lib.trimS d cs).isEmpty = d.all (cs.contains ·) := by
  unfold Lib.trimS Lib.trimLeftS Lib.trimRightS
  cases hall : d.all (cs.contains ·) with
  | true =>
    have h : ∀ x ∈ d, cs.contains x = true := List.all_eq_true.1 hall
    rw [dropWhile_all _ d.reverse (fun x hx => h x (List.mem_reverse.1 hx))]
    rfl
  | false =>
    cases h2 : d.reverse.dropWhile (cs.contains ·) with
    | nil =>
      have h3 := dropWhile_nil_of _ _ h2
      have : d.all (cs.contains ·) = true := List.all_eq_true.2 (fun x hx => h3 x (List.mem_reverse.2 hx))
      rw [this] at hall
      cases hall
    | cons a t =>
      have h3 := dropWhile_head_of _ _ _ _ h2
      cases h4 : (a :: t).reverse.dropWhile (cs.contains ·) with
      | nil =>
        have h5 := dropWhile_nil_of _ _ h4 a (by simp)
        rw [h3] at h5
        cases h5
      | cons b r => rfl

theorem all_bad {l : List UInt8} {p : UInt8 → Bool} {j : Nat} {c : UInt8} (hj : l[j]? = some c) (hc : p c = false) : l.all p = false := by
  cases ha : l.all p with
  | false => rfl
  | true => rw [List.all_eq_true.1 ha c (List.mem_of_getElem? hj)] at hc; cases hc

theorem toList_empty (s : ByteArray) : s.toList.isEmpty = decide (s.size = 0) := by
  rw [Lib.toList_data, Lib.size_eq]
  cases s.data.toList <;> simp

/-- What is asked of a name, test by test. -/
theorem name_cases (s : ByteArray) : (s.size = 0 ∧ isName s.data.toList = false) ∨ (0 < s.size ∧ 20 < s.size ∧ isName s.data.toList = false) ∨
    (0 < s.size ∧ s.size ≤ 20 ∧ ∃ b : UInt8, s.data.toList[0]? = some b ∧ ((b.toNat < 97 ∧ isName s.data.toList = false) ∨ (97 ≤ b.toNat ∧ 122 < b.toNat ∧ isName s.data.toList = false) ∨
      (97 ≤ b.toNat ∧ b.toNat ≤ 122 ∧ isName s.data.toList = s.data.toList.all nameChar))) := by
  rw [Lib.size_eq]
  cases h : s.data.toList with
  | nil => exact .inl ⟨rfl, rfl⟩
  | cons b r =>
    simp only [List.length_cons, isName]
    by_cases h1 : 20 < r.length + 1
    · exact .inr (.inl ⟨by omega, h1, by rw [decide_eq_false (by omega)]; rfl⟩)
    · refine .inr (.inr ⟨by omega, by omega, b, rfl, ?_⟩)
      rw [decide_eq_true (show r.length < 20 by omega), Bool.true_and]
      by_cases h2 : b.toNat < 97
      · exact .inl ⟨h2, by rw [decide_eq_false (by omega)]; rfl⟩
      · by_cases h3 : 122 < b.toNat
        · exact .inr (.inl ⟨by omega, h3, by rw [decide_eq_false (by omega)]; rfl⟩)
        · exact .inr (.inr ⟨by omega, by omega, by rw [decide_eq_true (show 97 ≤ b.toNat ∧ b.toNat ≤ 122 from ⟨by omega, by omega⟩), Bool.true_and]⟩)

theorem nameChar_cases (c : UInt8) : (97 ≤ c.toNat ∧ c.toNat ≤ 122 ∧ nameChar c = true) ∨ (97 ≤ c.toNat ∧ 122 < c.toNat ∧ nameChar c = false) ∨ (c.toNat < 97 ∧ 48 ≤ c.toNat ∧ c.toNat ≤ 57 ∧ nameChar c = true) ∨
    (c.toNat < 97 ∧ 48 ≤ c.toNat ∧ 57 < c.toNat ∧ nameChar c = false) ∨ (c.toNat < 48 ∧ c.toNat = 45 ∧ nameChar c = true) ∨ (c.toNat < 48 ∧ c.toNat ≠ 45 ∧ nameChar c = false) := by
  unfold nameChar
  by_cases a : 97 ≤ c.toNat <;> by_cases b : c.toNat ≤ 122 <;> by_cases d : 48 ≤ c.toNat <;> by_cases e : c.toNat ≤ 57 <;> by_cases f : c.toNat = 45 <;> simp [a, b, d, e, f] <;> omega

set_option maxHeartbeats 1600000 in
set_option maxRecDepth 100000 in
theorem checkName_any (s : ByteArray) (w : World) : Calls Tryz.prog 99 #[.string s] w fun e w' => e = .returned (.int .i64 (nameErr s)) ∧ Below w.heap.size w w' := by
  unfold nameErr
  have hemp := toList_empty s
  rcases name_cases s with ⟨h0, hn⟩ | ⟨h0, h1, hn⟩ | ⟨h0, h1, b, hb, ⟨h2, hn⟩ | ⟨h2, h3, hn⟩ | ⟨h2, h3, hn⟩⟩
  · rw [hn, if_neg Bool.false_ne_true]
    rw [decide_eq_true h0] at hemp
    clear hn h0
    go_enter Tryz.func99, Tryz.ntmps99
    go_wp2
    go_ret
    exact ⟨rfl, Below.refl _ _⟩
  · rw [hn, if_neg Bool.false_ne_true]
    rw [decide_eq_false (by omega)] at hemp
    clear hn
    have i1 : (20 : Int) < (s.size : Int) := by omega
    go_enter Tryz.func99, Tryz.ntmps99
    go_wp2
    go_ret
    exact ⟨rfl, Below.refl _ _⟩
  · rw [hn, if_neg Bool.false_ne_true]
    rw [decide_eq_false (by omega)] at hemp
    have ix := idx_str hb
    clear hn hb
    have i1 : ¬ (20 : Int) < (s.size : Int) := by omega
    have i2 : (b.toNat : Int) < 97 := by omega
    rw [show (((0 : Nat) : Int)) = 0 from rfl] at ix
    go_enter Tryz.func99, Tryz.ntmps99
    go_wp2
    go_ret
    exact ⟨rfl, Below.refl _ _⟩
  · rw [hn, if_neg Bool.false_ne_true]
    rw [decide_eq_false (by omega)] at hemp
    have ix := idx_str hb
    clear hn hb
    have i1 : ¬ (20 : Int) < (s.size : Int) := by omega
    have i2 : ¬ (b.toNat : Int) < 97 := by omega
    have i3 : (122 : Int) < (b.toNat : Int) := by omega
    rw [show (((0 : Nat) : Int)) = 0 from rfl] at ix
    go_enter Tryz.func99, Tryz.ntmps99
    go_wp2
    go_ret
    exact ⟨rfl, Below.refl _ _⟩
  · rw [hn]
    rw [decide_eq_false (by omega)] at hemp
    have ix := idx_str hb
    clear hn hb
    have i1 : ¬ (20 : Int) < (s.size : Int) := by omega
    have i2 : ¬ (b.toNat : Int) < 97 := by omega
    have i3 : ¬ (122 : Int) < (b.toNat : Int) := by omega
    rw [show (((0 : Nat) : Int)) = 0 from rfl] at ix
    have HALL := hide (fun (h : ∀ j c, j < s.size → s.data.toList[j]? = some c → nameChar c = true) => List.all_eq_true.2 (fun c hc => by
      obtain ⟨j, hj, rfl⟩ := List.getElem_of_mem hc
      exact h j _ (by rw [Lib.size_eq]; exact hj) (List.getElem?_eq_getElem hj)))
    have HBAD := hide (fun (j : Nat) (c : UInt8) (hj : s.data.toList[j]? = some c) (hc : nameChar c = false) => all_bad hj hc)
    generalize s.data.toList.all nameChar = R at *
    go_enter Tryz.func99, Tryz.ntmps99
    go_wp2
    go_loop [24] (fun i => ∃ k : Nat, k ≤ s.size ∧ i = .int .i64 k ∧ Hid (∀ j c, j < k → s.data.toList[j]? = some c → nameChar c = true)) (fun i => s.size - (intOf i).toNat)
    case atStart => exact ⟨0, Nat.zero_le _, rfl, hide (fun j c hj => by omega)⟩
    case round =>
      obtain ⟨k, hk, rfl, HK⟩ := hrel
      clear ix
      by_cases hlt : k < s.size
      · obtain ⟨c, hc⟩ : ∃ c, s.data.toList[k]? = some c := ⟨_, List.getElem?_eq_getElem (by rw [← Lib.size_eq]; exact hlt)⟩
        have ix := idx_str hc
        have HC := hide hc
        clear hc
        rcases nameChar_cases c with ⟨g1, g2, hn⟩ | ⟨g1, g2, hn⟩ | ⟨g1, g2, g3, hn⟩ | ⟨g1, g2, g3, hn⟩ | ⟨g1, g2, hn⟩ | ⟨g1, g2, hn⟩
        · have HN := hide hn
          clear hn
          have j1 : (97 : Int) ≤ (c.toNat : Int) := by omega
          have j2 : (c.toNat : Int) ≤ 122 := by omega
          go_wp2
          go_round
          case rel =>
            refine ⟨k + 1, hlt, by go_num, hide (fun j d hj hd => ?_)⟩
            rcases Nat.lt_or_ge j k with h | h
            · exact HK.out j d h hd
            · obtain rfl : j = k := by omega
              rw [HC.out] at hd; cases hd; exact HN.out
          case measure => simp [intOf]; omega
        · have hR := HBAD.out k c HC.out hn
          subst hR
          clear hn
          have j1 : (97 : Int) ≤ (c.toNat : Int) := by omega
          have j2 : ¬ (c.toNat : Int) ≤ 122 := by omega
          have j3 : (48 : Int) ≤ (c.toNat : Int) := by omega
          have j4 : ¬ (c.toNat : Int) ≤ 57 := by omega
          have j5 : ((c.toNat : Int) == 45) = false := beq_eq_false_iff_ne.2 (by omega)
          go_wp2
          go_ret
          exact ⟨rfl, Below.refl _ _⟩
        · have HN := hide hn
          clear hn
          have j1 : ¬ (97 : Int) ≤ (c.toNat : Int) := by omega
          have j3 : (48 : Int) ≤ (c.toNat : Int) := by omega
          have j4 : (c.toNat : Int) ≤ 57 := by omega
          go_wp2
          go_round
          case rel =>
            refine ⟨k + 1, hlt, by go_num, hide (fun j d hj hd => ?_)⟩
            rcases Nat.lt_or_ge j k with h | h
            · exact HK.out j d h hd
            · obtain rfl : j = k := by omega
              rw [HC.out] at hd; cases hd; exact HN.out
          case measure => simp [intOf]; omega
        · have hR := HBAD.out k c HC.out hn
          subst hR
          clear hn
          have j1 : ¬ (97 : Int) ≤ (c.toNat : Int) := by omega
          have j3 : (48 : Int) ≤ (c.toNat : Int) := by omega
          have j4 : ¬ (c.toNat : Int) ≤ 57 := by omega
          have j5 : ((c.toNat : Int) == 45) = false := beq_eq_false_iff_ne.2 (by omega)
          go_wp2
          go_ret
          exact ⟨rfl, Below.refl _ _⟩
        · have HN := hide hn
          clear hn
          have j1 : ¬ (97 : Int) ≤ (c.toNat : Int) := by omega
          have j3 : ¬ (48 : Int) ≤ (c.toNat : Int) := by omega
          have j5 : ((c.toNat : Int) == 45) = true := beq_iff_eq.2 (by omega)
          go_wp2
          go_round
          case rel =>
            refine ⟨k + 1, hlt, by go_num, hide (fun j d hj hd => ?_)⟩
            rcases Nat.lt_or_ge j k with h | h
            · exact HK.out j d h hd
            · obtain rfl : j = k := by omega
              rw [HC.out] at hd; cases hd; exact HN.out
          case measure => simp [intOf]; omega
        · have hR := HBAD.out k c HC.out hn
          subst hR
          clear hn
          have j1 : ¬ (97 : Int) ≤ (c.toNat : Int) := by omega
          have j3 : ¬ (48 : Int) ≤ (c.toNat : Int) := by omega
          have j5 : ((c.toNat : Int) == 45) = false := beq_eq_false_iff_ne.2 (by omega)
          go_wp2
          go_ret
          exact ⟨rfl, Below.refl _ _⟩
      · obtain rfl : k = s.size := by omega
        have hR : R = true := HALL.out HK.out
        subst hR
        go_wp2
        go_ret
        exact ⟨rfl, Below.refl _ _⟩

end Go.Proofs.YtioppoaijehicaaGreatDoor
/-
  PLAIN AND WALKS: what is wrong with a value by itself: its form, its numbers, its text.
-/
namespace Go.Proofs.YtioppoaijehicaaGreatDoor
open Go.RowKit Go.Lib

def sqAny (s : ByteArray) : Bool := Lib.containsAny s.data.toList [91, 93, 124]

def blankEnd (s : ByteArray) : Bool := decide (s.data.toList[0]? = some 32) || decide (s.data.toList[s.size - 1]? = some 32)

def formB (k i t : Int) (m n : Nat) : Bool :=
  (decide (k = 1 ∨ k = 2 ∨ k = 4 ∨ k = 5) || decide (i = 0)) && ((decide (k = 5) || decide (t = 0)) && ((decide (k = 3 ∨ k = 6) || decide (m = 0)) && (decide (k = 7) || decide (n = 0))))

def V.formOk (v : V) : Bool := formB v.k v.i v.t v.s.size v.l.length

def V.numErr (v : V) : Int :=
  if v.k = 1 then (if v.i < 0 ∨ 1 < v.i then 2 else 0) else
  if v.k = 2 then (if v.i < -1000000000 ∨ 1000000000 < v.i then 2 else 0) else
  if v.k = 4 then (if v.i < 0 ∨ 100000 < v.i then 2 else 0) else
  if v.k = 5 then (if (v.i < 0 ∨ 100000 < v.i) ∨ (v.t < 0 ∨ 100000 < v.t) then 2 else if v.t < v.i then 5 else 0) else 0

def V.textErr (v : V) : Int :=
  if 2000 < v.s.size ∨ (v.k = 6 ∧ 100 < v.s.size) then 4 else if ctl v.s = true then 9 else
  if v.k = 6 ∧ (v.s.size = 0 ∨ blankEnd v.s = true ∨ sqAny v.s = true) then 1 else 0

def V.selfErr (v : V) : Int :=
  if v.k < 0 ∨ 7 < v.k then 10 else if v.formOk = false then 1 else if v.numErr ≠ 0 then v.numErr else if v.textErr ≠ 0 then v.textErr else if 20 < v.l.length then 4 else 0

theorem kinds {k : Int} (h : 0 ≤ k) (h7 : k ≤ 7) : k = 0 ∨ k = 1 ∨ k = 2 ∨ k = 3 ∨ k = 4 ∨ k = 5 ∨ k = 6 ∨ k = 7 := by omega

set_option maxHeartbeats 3200000 in
set_option maxRecDepth 100000 in
theorem usesForm_any (v : V) (A : Option Addr) (c : Nat) (w : World) (h0 : 0 ≤ v.k) (h7 : v.k ≤ 7) (hl : v.l.length ≤ maxLen) :
    Calls Tryz.prog 144 #[v.arg A c] w fun e w' => e = .returned (.bool v.formOk) ∧ Below w.heap.size w w' := by
  have hemp := toList_empty v.s
  unfold V.formOk
  obtain ⟨k, i, t, s, l⟩ := v
  simp only [V.arg, V.k, V.i, V.t, V.s, V.l] at *
  unfold maxLen at hl
  generalize l.length = n at *
  have hk := kinds h0 h7
  clear h0 h7
  obtain ⟨B, m, hB, hm⟩ : ∃ (B : Bool) (m : Nat), s.toList.isEmpty = B ∧ s.size = m ∧ ((B = true ∧ m = 0) ∨ (B = false ∧ 0 < m)) := ⟨_, _, rfl, rfl, by rw [hemp]; rcases Nat.eq_zero_or_pos s.size with h | h; exact .inl ⟨decide_eq_true h, h⟩; exact .inr ⟨decide_eq_false (by omega), h⟩⟩
  obtain ⟨hm1, hm⟩ := hm
  rw [hm1]
  clear hm1 hemp
  rcases hk with rfl | rfl | rfl | rfl | rfl | rfl | rfl | rfl
  · go_enter Tryz.func144, Tryz.ntmps144
    by_cases hi : i = 0
    case neg =>
      have hi2 : (i == 0) = false := beq_eq_false_iff_ne.2 hi
      go_wp2
      go_ret
      exact ⟨by first | rfl | (simp [formB, *] <;> omega), (by repeat (first | exact Below.refl _ _ | refine bl_plus ?_ | refine bl_alloc ?_ _ | refine bl_drew ?_))⟩
    subst hi
    by_cases ht : t = 0
    case neg =>
      have ht2 : (t == 0) = false := beq_eq_false_iff_ne.2 ht
      go_wp2
      go_ret
      exact ⟨by first | rfl | (simp [formB, *] <;> omega), (by repeat (first | exact Below.refl _ _ | refine bl_plus ?_ | refine bl_alloc ?_ _ | refine bl_drew ?_))⟩
    subst ht
    rcases hm with ⟨rfl, rfl⟩ | ⟨rfl, hm⟩
    case inr =>
      go_wp2
      go_ret
      exact ⟨by first | rfl | (simp [formB, *] <;> omega), (by repeat (first | exact Below.refl _ _ | refine bl_plus ?_ | refine bl_alloc ?_ _ | refine bl_drew ?_))⟩
    rcases Nat.eq_zero_or_pos n with hn | hn
    case inr =>
      have hn2 : ((n : Int) == 0) = false := beq_eq_false_iff_ne.2 (by omega)
      go_wp2
      go_ret
      exact ⟨by first | rfl | (simp [formB, *] <;> omega), (by repeat (first | exact Below.refl _ _ | refine bl_plus ?_ | refine bl_alloc ?_ _ | refine bl_drew ?_))⟩
    subst hn
    go_wp2
    go_ret
    exact ⟨by first | rfl | (simp [formB, *] <;> omega), (by repeat (first | exact Below.refl _ _ | refine bl_plus ?_ | refine bl_alloc ?_ _ | refine bl_drew ?_))⟩
  · go_enter Tryz.func144, Tryz.ntmps144
    by_cases ht : t = 0
    case neg =>
      have ht2 : (t == 0) = false := beq_eq_false_iff_ne.2 ht
      go_wp2
      go_ret
      exact ⟨by first | rfl | (simp [formB, *] <;> omega), (by repeat (first | exact Below.refl _ _ | refine bl_plus ?_ | refine bl_alloc ?_ _ | refine bl_drew ?_))⟩
    subst ht
    rcases hm with ⟨rfl, rfl⟩ | ⟨rfl, hm⟩
    case inr =>
      go_wp2
      go_ret
      exact ⟨by first | rfl | (simp [formB, *] <;> omega), (by repeat (first | exact Below.refl _ _ | refine bl_plus ?_ | refine bl_alloc ?_ _ | refine bl_drew ?_))⟩
    rcases Nat.eq_zero_or_pos n with hn | hn
    case inr =>
      have hn2 : ((n : Int) == 0) = false := beq_eq_false_iff_ne.2 (by omega)
      go_wp2
      go_ret
      exact ⟨by first | rfl | (simp [formB, *] <;> omega), (by repeat (first | exact Below.refl _ _ | refine bl_plus ?_ | refine bl_alloc ?_ _ | refine bl_drew ?_))⟩
    subst hn
    go_wp2
    go_ret
    exact ⟨by first | rfl | (simp [formB, *] <;> omega), (by repeat (first | exact Below.refl _ _ | refine bl_plus ?_ | refine bl_alloc ?_ _ | refine bl_drew ?_))⟩
  · go_enter Tryz.func144, Tryz.ntmps144
    by_cases ht : t = 0
    case neg =>
      have ht2 : (t == 0) = false := beq_eq_false_iff_ne.2 ht
      go_wp2
      go_ret
      exact ⟨by first | rfl | (simp [formB, *] <;> omega), (by repeat (first | exact Below.refl _ _ | refine bl_plus ?_ | refine bl_alloc ?_ _ | refine bl_drew ?_))⟩
    subst ht
    rcases hm with ⟨rfl, rfl⟩ | ⟨rfl, hm⟩
    case inr =>
      go_wp2
      go_ret
      exact ⟨by first | rfl | (simp [formB, *] <;> omega), (by repeat (first | exact Below.refl _ _ | refine bl_plus ?_ | refine bl_alloc ?_ _ | refine bl_drew ?_))⟩
    rcases Nat.eq_zero_or_pos n with hn | hn
    case inr =>
      have hn2 : ((n : Int) == 0) = false := beq_eq_false_iff_ne.2 (by omega)
      go_wp2
      go_ret
      exact ⟨by first | rfl | (simp [formB, *] <;> omega), (by repeat (first | exact Below.refl _ _ | refine bl_plus ?_ | refine bl_alloc ?_ _ | refine bl_drew ?_))⟩
    subst hn
    go_wp2
    go_ret
    exact ⟨by first | rfl | (simp [formB, *] <;> omega), (by repeat (first | exact Below.refl _ _ | refine bl_plus ?_ | refine bl_alloc ?_ _ | refine bl_drew ?_))⟩
  · go_enter Tryz.func144, Tryz.ntmps144
    by_cases hi : i = 0
    case neg =>
      have hi2 : (i == 0) = false := beq_eq_false_iff_ne.2 hi
      go_wp2
      go_ret
      exact ⟨by first | rfl | (simp [formB, *] <;> omega), (by repeat (first | exact Below.refl _ _ | refine bl_plus ?_ | refine bl_alloc ?_ _ | refine bl_drew ?_))⟩
    subst hi
    by_cases ht : t = 0
    case neg =>
      have ht2 : (t == 0) = false := beq_eq_false_iff_ne.2 ht
      go_wp2
      go_ret
      exact ⟨by first | rfl | (simp [formB, *] <;> omega), (by repeat (first | exact Below.refl _ _ | refine bl_plus ?_ | refine bl_alloc ?_ _ | refine bl_drew ?_))⟩
    subst ht
    rcases Nat.eq_zero_or_pos n with hn | hn
    case inr =>
      have hn2 : ((n : Int) == 0) = false := beq_eq_false_iff_ne.2 (by omega)
      go_wp2
      go_ret
      exact ⟨by first | rfl | (simp [formB, *] <;> omega), (by repeat (first | exact Below.refl _ _ | refine bl_plus ?_ | refine bl_alloc ?_ _ | refine bl_drew ?_))⟩
    subst hn
    go_wp2
    go_ret
    exact ⟨by first | rfl | (simp [formB, *] <;> omega), (by repeat (first | exact Below.refl _ _ | refine bl_plus ?_ | refine bl_alloc ?_ _ | refine bl_drew ?_))⟩
  · go_enter Tryz.func144, Tryz.ntmps144
    by_cases ht : t = 0
    case neg =>
      have ht2 : (t == 0) = false := beq_eq_false_iff_ne.2 ht
      go_wp2
      go_ret
      exact ⟨by first | rfl | (simp [formB, *] <;> omega), (by repeat (first | exact Below.refl _ _ | refine bl_plus ?_ | refine bl_alloc ?_ _ | refine bl_drew ?_))⟩
    subst ht
    rcases hm with ⟨rfl, rfl⟩ | ⟨rfl, hm⟩
    case inr =>
      go_wp2
      go_ret
      exact ⟨by first | rfl | (simp [formB, *] <;> omega), (by repeat (first | exact Below.refl _ _ | refine bl_plus ?_ | refine bl_alloc ?_ _ | refine bl_drew ?_))⟩
    rcases Nat.eq_zero_or_pos n with hn | hn
    case inr =>
      have hn2 : ((n : Int) == 0) = false := beq_eq_false_iff_ne.2 (by omega)
      go_wp2
      go_ret
      exact ⟨by first | rfl | (simp [formB, *] <;> omega), (by repeat (first | exact Below.refl _ _ | refine bl_plus ?_ | refine bl_alloc ?_ _ | refine bl_drew ?_))⟩
    subst hn
    go_wp2
    go_ret
    exact ⟨by first | rfl | (simp [formB, *] <;> omega), (by repeat (first | exact Below.refl _ _ | refine bl_plus ?_ | refine bl_alloc ?_ _ | refine bl_drew ?_))⟩
  · go_enter Tryz.func144, Tryz.ntmps144
    rcases hm with ⟨rfl, rfl⟩ | ⟨rfl, hm⟩
    case inr =>
      go_wp2
      go_ret
      exact ⟨by first | rfl | (simp [formB, *] <;> omega), (by repeat (first | exact Below.refl _ _ | refine bl_plus ?_ | refine bl_alloc ?_ _ | refine bl_drew ?_))⟩
    rcases Nat.eq_zero_or_pos n with hn | hn
    case inr =>
      have hn2 : ((n : Int) == 0) = false := beq_eq_false_iff_ne.2 (by omega)
      go_wp2
      go_ret
      exact ⟨by first | rfl | (simp [formB, *] <;> omega), (by repeat (first | exact Below.refl _ _ | refine bl_plus ?_ | refine bl_alloc ?_ _ | refine bl_drew ?_))⟩
    subst hn
    go_wp2
    go_ret
    exact ⟨by first | rfl | (simp [formB, *] <;> omega), (by repeat (first | exact Below.refl _ _ | refine bl_plus ?_ | refine bl_alloc ?_ _ | refine bl_drew ?_))⟩
  · go_enter Tryz.func144, Tryz.ntmps144
    by_cases hi : i = 0
    case neg =>
      have hi2 : (i == 0) = false := beq_eq_false_iff_ne.2 hi
      go_wp2
      go_ret
      exact ⟨by first | rfl | (simp [formB, *] <;> omega), (by repeat (first | exact Below.refl _ _ | refine bl_plus ?_ | refine bl_alloc ?_ _ | refine bl_drew ?_))⟩
    subst hi
    by_cases ht : t = 0
    case neg =>
      have ht2 : (t == 0) = false := beq_eq_false_iff_ne.2 ht
      go_wp2
      go_ret
      exact ⟨by first | rfl | (simp [formB, *] <;> omega), (by repeat (first | exact Below.refl _ _ | refine bl_plus ?_ | refine bl_alloc ?_ _ | refine bl_drew ?_))⟩
    subst ht
    rcases Nat.eq_zero_or_pos n with hn | hn
    case inr =>
      have hn2 : ((n : Int) == 0) = false := beq_eq_false_iff_ne.2 (by omega)
      go_wp2
      go_ret
      exact ⟨by first | rfl | (simp [formB, *] <;> omega), (by repeat (first | exact Below.refl _ _ | refine bl_plus ?_ | refine bl_alloc ?_ _ | refine bl_drew ?_))⟩
    subst hn
    go_wp2
    go_ret
    exact ⟨by first | rfl | (simp [formB, *] <;> omega), (by repeat (first | exact Below.refl _ _ | refine bl_plus ?_ | refine bl_alloc ?_ _ | refine bl_drew ?_))⟩
  · go_enter Tryz.func144, Tryz.ntmps144
    by_cases hi : i = 0
    case neg =>
      have hi2 : (i == 0) = false := beq_eq_false_iff_ne.2 hi
      go_wp2
      go_ret
      exact ⟨by first | rfl | (simp [formB, *] <;> omega), (by repeat (first | exact Below.refl _ _ | refine bl_plus ?_ | refine bl_alloc ?_ _ | refine bl_drew ?_))⟩
    subst hi
    by_cases ht : t = 0
    case neg =>
      have ht2 : (t == 0) = false := beq_eq_false_iff_ne.2 ht
      go_wp2
      go_ret
      exact ⟨by first | rfl | (simp [formB, *] <;> omega), (by repeat (first | exact Below.refl _ _ | refine bl_plus ?_ | refine bl_alloc ?_ _ | refine bl_drew ?_))⟩
    subst ht
    rcases hm with ⟨rfl, rfl⟩ | ⟨rfl, hm⟩
    case inr =>
      go_wp2
      go_ret
      exact ⟨by first | rfl | (simp [formB, *] <;> omega), (by repeat (first | exact Below.refl _ _ | refine bl_plus ?_ | refine bl_alloc ?_ _ | refine bl_drew ?_))⟩
    go_wp2
    go_ret
    exact ⟨by first | rfl | (simp [formB, *] <;> omega), (by repeat (first | exact Below.refl _ _ | refine bl_plus ?_ | refine bl_alloc ?_ _ | refine bl_drew ?_))⟩

end Go.Proofs.YtioppoaijehicaaGreatDoor
/-
  WALKS: a value's numbers and its text.
-/
namespace Go.Proofs.YtioppoaijehicaaGreatDoor
open Go.RowKit Go.Lib

theorem V.num_cases (v : V) :
    (v.k = 1 ∧ (((v.i < 0 ∨ 1 < v.i) ∧ v.numErr = 2) ∨ ((0 ≤ v.i ∧ v.i ≤ 1) ∧ v.numErr = 0))) ∨
    (v.k = 2 ∧ (((v.i < -1000000000 ∨ 1000000000 < v.i) ∧ v.numErr = 2) ∨ ((-1000000000 ≤ v.i ∧ v.i ≤ 1000000000) ∧ v.numErr = 0))) ∨
    (v.k = 4 ∧ (((v.i < 0 ∨ 100000 < v.i) ∧ v.numErr = 2) ∨ ((0 ≤ v.i ∧ v.i ≤ 100000) ∧ v.numErr = 0))) ∨
    (v.k = 5 ∧ (((v.i < 0 ∨ 100000 < v.i) ∧ v.numErr = 2) ∨ ((0 ≤ v.i ∧ v.i ≤ 100000) ∧ (((v.t < 0 ∨ 100000 < v.t) ∧ v.numErr = 2) ∨ ((0 ≤ v.t ∧ v.t ≤ 100000) ∧ ((v.t < v.i ∧ v.numErr = 5) ∨ (v.i ≤ v.t ∧ v.numErr = 0))))))) ∨
    ((v.k ≠ 1 ∧ v.k ≠ 2 ∧ v.k ≠ 4 ∧ v.k ≠ 5) ∧ v.numErr = 0) := by
  unfold V.numErr
  have c : ∀ n lo hi : Int, (n < lo ∨ hi < n) ∨ (lo ≤ n ∧ n ≤ hi) := fun n lo hi => by omega
  by_cases h1 : v.k = 1
  · refine .inl ⟨h1, ?_⟩
    rw [if_pos h1]
    rcases c v.i 0 1 with h | h
    · exact .inl ⟨h, if_pos h⟩
    · exact .inr ⟨h, if_neg (by omega)⟩
  by_cases h2 : v.k = 2
  · refine .inr (.inl ⟨h2, ?_⟩)
    rw [if_neg h1, if_pos h2]
    rcases c v.i (-1000000000) 1000000000 with h | h
    · exact .inl ⟨h, if_pos h⟩
    · exact .inr ⟨h, if_neg (by omega)⟩
  by_cases h4 : v.k = 4
  · refine .inr (.inr (.inl ⟨h4, ?_⟩))
    rw [if_neg h1, if_neg h2, if_pos h4]
    rcases c v.i 0 100000 with h | h
    · exact .inl ⟨h, if_pos h⟩
    · exact .inr ⟨h, if_neg (by omega)⟩
  by_cases h5 : v.k = 5
  · refine .inr (.inr (.inr (.inl ⟨h5, ?_⟩)))
    rw [if_neg h1, if_neg h2, if_neg h4, if_pos h5]
    rcases c v.i 0 100000 with h | h
    · exact .inl ⟨h, if_pos (.inl h)⟩
    · refine .inr ⟨h, ?_⟩
      rcases c v.t 0 100000 with g | g
      · exact .inl ⟨g, if_pos (.inr g)⟩
      · refine .inr ⟨g, ?_⟩
        rw [if_neg (by omega)]
        by_cases e : v.t < v.i
        · exact .inl ⟨e, if_pos e⟩
        · exact .inr ⟨by omega, if_neg e⟩
  · exact .inr (.inr (.inr (.inr ⟨⟨h1, h2, h4, h5⟩, by rw [if_neg h1, if_neg h2, if_neg h4, if_neg h5]⟩)))

set_option maxHeartbeats 3200000 in
set_option maxRecDepth 100000 in
theorem checkNumbers_any (v : V) (A : Option Addr) (c : Nat) (w : World) :
    Calls Tryz.prog 145 #[v.arg A c] w fun e w' => e = .returned (.int .i64 v.numErr) ∧ Below w.heap.size w w' := by
  have hc := v.num_cases
  generalize v.numErr = E at *
  obtain ⟨k, i, t, s, l⟩ := v
  simp only [V.arg, V.k, V.i, V.t, V.s, V.l] at *
  go_enter Tryz.func145, Tryz.ntmps145
  rcases hc with ⟨rfl, ⟨h, rfl⟩ | ⟨⟨h, h'⟩, rfl⟩⟩ | ⟨rfl, ⟨h, rfl⟩ | ⟨⟨h, h'⟩, rfl⟩⟩ | ⟨rfl, ⟨h, rfl⟩ | ⟨⟨h, h'⟩, rfl⟩⟩ | ⟨rfl, ⟨h, rfl⟩ | ⟨⟨h, h'⟩, ⟨g, rfl⟩ | ⟨⟨g, g'⟩, ⟨e, rfl⟩ | ⟨e, rfl⟩⟩⟩⟩ | ⟨⟨n1, n2, n4, n5⟩, rfl⟩
  all_goals
    (try have m1 : (k == 1) = false := beq_eq_false_iff_ne.2 n1)
    (try have m2 : (k == 2) = false := beq_eq_false_iff_ne.2 n2)
    (try have m4 : (k == 4) = false := beq_eq_false_iff_ne.2 n4)
    (try have m5 : (k == 5) = false := beq_eq_false_iff_ne.2 n5)
    go_wp2_with (go_at_call 89; first
          | (with_reducible refine Calls.mono (outsideP_yes _ _ _ _ (by omega)) ?_; rintro e w' ⟨rfl, rfl⟩)
          | (with_reducible refine Calls.mono (outsideP_no _ _ _ _ (by omega) (by omega)) ?_; rintro e w' ⟨rfl, rfl⟩))
    go_ret
    exact ⟨rfl, (by repeat (first | exact Below.refl _ _ | refine bl_plus ?_ | refine bl_alloc ?_ _ | refine bl_drew ?_))⟩

theorem V.text_cases (v : V) : (2000 < v.s.size ∧ v.textErr = 4) ∨ (v.s.size ≤ 2000 ∧ v.k = 6 ∧ 100 < v.s.size ∧ v.textErr = 4) ∨
    ((v.s.size ≤ 2000 ∧ v.k ≠ 6) ∧ ((ctl v.s = true ∧ v.textErr = 9) ∨ (ctl v.s = false ∧ v.textErr = 0))) ∨
    ((v.k = 6 ∧ v.s.size ≤ 100) ∧ ((ctl v.s = true ∧ v.textErr = 9) ∨ (ctl v.s = false ∧ (
      (v.s.size = 0 ∧ v.textErr = 1) ∨ (∃ (m : Nat) (x y : UInt8), v.s.size = m + 1 ∧ v.s.data.toList[0]? = some x ∧ v.s.data.toList[m]? = some y ∧ (
        (x.toNat = 32 ∧ v.textErr = 1) ∨ (x.toNat ≠ 32 ∧ y.toNat = 32 ∧ v.textErr = 1) ∨ (x.toNat ≠ 32 ∧ y.toNat ≠ 32 ∧ sqAny v.s = true ∧ v.textErr = 1) ∨ (x.toNat ≠ 32 ∧ y.toNat ≠ 32 ∧ sqAny v.s = false ∧ v.textErr = 0))))))) := by
  unfold V.textErr
  have n32 : ∀ x : UInt8, x.toNat = 32 ↔ x = 32 := fun x => ⟨fun h => UInt8.toNat_inj.1 h, fun h => by rw [h]; rfl⟩
  by_cases h1 : 2000 < v.s.size
  · exact .inl ⟨h1, if_pos (.inl h1)⟩
  by_cases h6 : v.k = 6
  · by_cases h2 : 100 < v.s.size
    · exact .inr (.inl ⟨by omega, h6, h2, if_pos (.inr ⟨h6, h2⟩)⟩)
    · refine .inr (.inr (.inr ⟨⟨h6, by omega⟩, ?_⟩))
      rw [if_neg (by omega)]
      cases hc : ctl v.s with
      | true => exact .inl ⟨rfl, if_pos rfl⟩
      | false =>
        refine .inr ⟨rfl, ?_⟩
        rw [if_neg Bool.false_ne_true]
        rcases Nat.eq_zero_or_pos v.s.size with h0 | h0
        · exact .inl ⟨h0, if_pos ⟨h6, .inl h0⟩⟩
        · have hlen : v.s.data.toList.length = v.s.size := by rw [Array.length_toList]; rfl
          have hx : v.s.data.toList[0]? = some (v.s.data.toList[0]'(by omega)) := List.getElem?_eq_getElem (by omega)
          have hy : v.s.data.toList[v.s.size - 1]? = some (v.s.data.toList[v.s.size - 1]'(by omega)) := List.getElem?_eq_getElem (by omega)
          refine .inr ⟨v.s.size - 1, _, _, by omega, hx, hy, ?_⟩
          have hbe : blankEnd v.s = (decide ((v.s.data.toList[0]'(by omega)).toNat = 32) || decide ((v.s.data.toList[v.s.size - 1]'(by omega)).toNat = 32)) := by
            unfold blankEnd
            rw [hx, hy]
            simp only [Option.some.injEq, n32]
          rw [hbe]
          generalize v.s.data.toList[0]'(by omega) = x
          generalize v.s.data.toList[v.s.size - 1]'(by omega) = y
          by_cases e1 : x.toNat = 32
          · exact .inl ⟨e1, if_pos ⟨h6, .inr (.inl (by simp [e1]))⟩⟩
          · by_cases e2 : y.toNat = 32
            · exact .inr (.inl ⟨e1, e2, if_pos ⟨h6, .inr (.inl (by simp [e2]))⟩⟩)
            · cases hq : sqAny v.s with
              | true => exact .inr (.inr (.inl ⟨e1, e2, rfl, if_pos ⟨h6, .inr (.inr rfl)⟩⟩))
              | false => exact .inr (.inr (.inr ⟨e1, e2, rfl, if_neg (by rintro ⟨_, h | h | h⟩; omega; (simp [e1, e2] at h); cases h)⟩))
  · refine .inr (.inr (.inl ⟨⟨by omega, h6⟩, ?_⟩))
    rw [if_neg (by rintro (h | h); exact h1 h; exact h6 h.1)]
    cases hc : ctl v.s with
    | true => exact .inl ⟨rfl, if_pos rfl⟩
    | false => exact .inr ⟨rfl, by rw [if_neg Bool.false_ne_true, if_neg (fun h => h6 h.1)]⟩

end Go.Proofs.YtioppoaijehicaaGreatDoor
/-
  WALK: a value's text.
-/
namespace Go.Proofs.YtioppoaijehicaaGreatDoor
open Go.RowKit Go.Lib

set_option maxHeartbeats 3200000 in
set_option maxRecDepth 100000 in
theorem checkText_any (v : V) (A : Option Addr) (c : Nat) (w : World) :
    Calls Tryz.prog 146 #[v.arg A c] w fun e w' => e = .returned (.int .i64 v.textErr) ∧ Below w.heap.size w w' := by
  have hc := v.text_cases
  have HCT := hide (fun w => hasControl_any v.s w)
  generalize v.textErr = E at *
  obtain ⟨k, i, t, s, l⟩ := v
  simp only [V.arg, V.k, V.i, V.t, V.s, V.l] at *
  have hemp := toList_empty s
  generalize ctl s = T at *
  rcases hc with ⟨h1, rfl⟩ | ⟨h1, rfl, h2, rfl⟩ | ⟨⟨h1, h2⟩, hc⟩ | ⟨⟨rfl, h1⟩, hc⟩
  · have i1 : (2000 : Int) < (s.size : Int) := by omega
    clear hemp
    go_enter Tryz.func146, Tryz.ntmps146
    go_wp2
    go_ret
    exact ⟨rfl, (by repeat (first | exact Below.refl _ _ | refine bl_plus ?_ | refine bl_alloc ?_ _ | refine bl_drew ?_))⟩
  · have i1 : ¬ (2000 : Int) < (s.size : Int) := by omega
    have i2 : (100 : Int) < (s.size : Int) := by omega
    clear hemp
    go_enter Tryz.func146, Tryz.ntmps146
    go_wp2
    go_ret
    exact ⟨rfl, (by repeat (first | exact Below.refl _ _ | refine bl_plus ?_ | refine bl_alloc ?_ _ | refine bl_drew ?_))⟩
  · have i1 : ¬ (2000 : Int) < (s.size : Int) := by omega
    have i2 : (k == 6) = false := beq_eq_false_iff_ne.2 h2
    clear hemp
    rcases hc with ⟨rfl, rfl⟩ | ⟨rfl, rfl⟩
    all_goals
      go_enter Tryz.func146, Tryz.ntmps146
      go_wp2_with (go_at_call 188; refine (HCT.out _).mono ?_; rintro e w' ⟨rfl, hbl⟩; obtain ⟨os1, n1, rfl⟩ := below_plus hbl; clear hbl)
      go_ret
      exact ⟨rfl, (by repeat (first | exact Below.refl _ _ | refine bl_plus ?_ | refine bl_alloc ?_ _ | refine bl_drew ?_))⟩
  · have i1 : ¬ (2000 : Int) < (s.size : Int) := by omega
    have i2 : ¬ (100 : Int) < (s.size : Int) := by omega
    rcases hc with ⟨rfl, rfl⟩ | ⟨rfl, ⟨h0, rfl⟩ | ⟨m, x, y, hm, hx, hy, hc⟩⟩
    · clear hemp
      go_enter Tryz.func146, Tryz.ntmps146
      go_wp2_with (go_at_call 188; refine (HCT.out _).mono ?_; rintro e w' ⟨rfl, hbl⟩; obtain ⟨os1, n1, rfl⟩ := below_plus hbl; clear hbl)
      go_ret
      exact ⟨rfl, (by repeat (first | exact Below.refl _ _ | refine bl_plus ?_ | refine bl_alloc ?_ _ | refine bl_drew ?_))⟩
    · rw [decide_eq_true h0] at hemp
      clear h0
      go_enter Tryz.func146, Tryz.ntmps146
      go_wp2_with (go_at_call 188; refine (HCT.out _).mono ?_; rintro e w' ⟨rfl, hbl⟩; obtain ⟨os1, n1, rfl⟩ := below_plus hbl; clear hbl)
      go_ret
      exact ⟨rfl, (by repeat (first | exact Below.refl _ _ | refine bl_plus ?_ | refine bl_alloc ?_ _ | refine bl_drew ?_))⟩
    · rw [decide_eq_false (by omega)] at hemp
      have ix := idx_str hx
      rw [show (((0 : Nat) : Int)) = 0 from rfl] at ix
      have iy := idx_str hy
      have HQ := hide (fun w => containsAny_any s ⟨#[91, 93, 124]⟩ w (by decide) (by decide) (by omega) (by
        intro j b hb
        have hmem : b ∈ [(91 : UInt8), 93, 124] := List.mem_of_getElem? hb
        simp only [List.mem_cons, List.not_mem_nil, or_false] at hmem
        rcases hmem with rfl | rfl | rfl <;> decide))
      change Hid (∀ w, Calls Tryz.prog 189 #[.string s, .string ⟨#[91, 93, 124]⟩] w fun e w' => e = .returned (.bool (sqAny s)) ∧ Below w.heap.size w w') at HQ
      have hwm : IntKind.i64.wrap (m : Int) = (m : Int) := by rw [IntKind.wrap_i64]; omega
      clear hx hy
      generalize sqAny s = Q at *
      rcases hc with ⟨e1, rfl⟩ | ⟨e1, e2, rfl⟩ | ⟨e1, e2, rfl, rfl⟩ | ⟨e1, e2, rfl, rfl⟩
      all_goals
        (try have b1 : ((x.toNat : Int) == 32) = true := beq_iff_eq.2 (by omega))
        (try have b1 : ((x.toNat : Int) == 32) = false := beq_eq_false_iff_ne.2 (by omega))
        (try have b2 : ((y.toNat : Int) == 32) = true := beq_iff_eq.2 (by omega))
        (try have b2 : ((y.toNat : Int) == 32) = false := beq_eq_false_iff_ne.2 (by omega))
        clear e1
        (try clear e2)
        go_enter Tryz.func146, Tryz.ntmps146
        go_wp2_with (first
          | (go_at_call 188; refine (HCT.out _).mono ?_; rintro e w' ⟨rfl, hbl⟩; obtain ⟨os1, n1, rfl⟩ := below_plus hbl; clear hbl)
          | (go_at_call 189; refine (HQ.out _).mono ?_; rintro e w' ⟨rfl, hbl⟩; obtain ⟨os2, n2, rfl⟩ := below_plus hbl; clear hbl))
        go_ret
        exact ⟨rfl, (by repeat (first | exact Below.refl _ _ | refine bl_plus ?_ | refine bl_alloc ?_ _ | refine bl_drew ?_))⟩

end Go.Proofs.YtioppoaijehicaaGreatDoor
/-
  WALK: a value's error, in the program.
-/
namespace Go.Proofs.YtioppoaijehicaaGreatDoor
open Go.RowKit Go.Lib

def itemErr (x : V) : Int := if x.k = 0 ∨ x.k = 7 then 10 else x.selfErr

/-- The first item that is not right. -/
def itemsErr (l : List V) : Int := match l.find? (fun x => itemErr x != 0) with
  | some x => itemErr x
  | none => 0

def V.err (v : V) : Int := if v.selfErr ≠ 0 then v.selfErr else itemsErr v.l

theorem itemsErr_none {l : List V} (h : ∀ j (hj : j < l.length), itemErr l[j] = 0) : itemsErr l = 0 := by
  unfold itemsErr
  rw [List.find?_eq_none.2 (fun x hx => by obtain ⟨j, hj, rfl⟩ := List.getElem_of_mem hx; rw [h j hj]; simp)]

theorem itemsErr_first : ∀ {l : List V} {k : Nat} (hk : k < l.length), (∀ j (hj : j < l.length), j < k → itemErr l[j] = 0) → itemErr l[k] ≠ 0 → itemsErr l = itemErr l[k]
  | [], k, hk, _, _ => absurd hk (by simp)
  | x :: l, 0, hk, _, hne => by
    unfold itemsErr
    rw [List.find?_cons_of_pos (by simpa using hne)]
    rfl
  | x :: l, k + 1, hk, h, hne => by
    have h0 := h 0 (by simp) (by omega)
    have ih := itemsErr_first (l := l) (k := k) (by simpa using hk) (fun j hj hjk => h (j + 1) (by simpa using hj) (by omega)) hne
    unfold itemsErr at ih ⊢
    have h0' : itemErr x = 0 := h0
    rw [List.find?_cons_of_neg (by rw [h0']; simp), ih]
    rfl

theorem V.self_cases (v : V) : ((v.k < 0 ∨ 7 < v.k) ∧ v.selfErr = 10) ∨ ((0 ≤ v.k ∧ v.k ≤ 7) ∧ ((v.formOk = false ∧ v.selfErr = 1) ∨ (v.formOk = true ∧
    ((v.numErr ≠ 0 ∧ v.selfErr = v.numErr) ∨ (v.numErr = 0 ∧ ((v.textErr ≠ 0 ∧ v.selfErr = v.textErr) ∨ (v.textErr = 0 ∧ ((20 < v.l.length ∧ v.selfErr = 4) ∨ (v.l.length ≤ 20 ∧ v.selfErr = 0))))))))) := by
  unfold V.selfErr
  by_cases h1 : v.k < 0 ∨ 7 < v.k
  · exact .inl ⟨h1, if_pos h1⟩
  refine .inr ⟨by omega, ?_⟩
  rw [if_neg h1]
  cases h2 : v.formOk with
  | false => exact .inl ⟨rfl, if_pos rfl⟩
  | true =>
    refine .inr ⟨rfl, ?_⟩
    rw [if_neg (fun h => Bool.false_ne_true h.symm)]
    by_cases h3 : v.numErr = 0
    · refine .inr ⟨h3, ?_⟩
      rw [if_neg (by omega)]
      by_cases h4 : v.textErr = 0
      · refine .inr ⟨h4, ?_⟩
        rw [if_neg (by omega)]
        by_cases h5 : 20 < v.l.length
        · exact .inl ⟨h5, if_pos h5⟩
        · exact .inr ⟨by omega, if_neg h5⟩
      · exact .inl ⟨h4, if_pos h4⟩
    · exact .inl ⟨h3, if_pos h3⟩

set_option maxHeartbeats 3200000 in
set_option maxRecDepth 100000 in
theorem checkValue_short (v : V) (A : Option Addr) (c : Nat) (w : World) (hm : v.l.length ≤ maxLen) (hs : v.selfErr ≠ 0 ∨ v.l.length = 0) :
    Calls Tryz.prog 100 #[v.arg A c] w fun e w' => e = .returned (.int .i64 v.selfErr) ∧ Below w.heap.size w w' := by
  have hc := v.self_cases
  have H1 := hide (fun w h0 h7 => usesForm_any v A c w h0 h7 hm)
  have H2 := hide (fun w => checkNumbers_any v A c w)
  have H3 := hide (fun w => checkText_any v A c w)
  generalize v.selfErr = E at *
  generalize v.formOk = F at *
  generalize v.numErr = N at *
  generalize v.textErr = T at *
  obtain ⟨k, i, t, s, l⟩ := v
  simp only [V.arg, V.k, V.i, V.t, V.s, V.l] at *
  unfold maxLen at hm
  generalize l.length = n at *
  go_enter Tryz.func100, Tryz.ntmps100
  rcases hc with ⟨h, rfl⟩ | ⟨⟨a1, a2⟩, ⟨rfl, rfl⟩ | ⟨rfl, ⟨h, rfl⟩ | ⟨rfl, ⟨h, rfl⟩ | ⟨rfl, ⟨h, rfl⟩ | ⟨h, rfl⟩⟩⟩⟩⟩
  all_goals
    (try have q1 := bne_iff_ne.2 h)
    (try (have q2 : n = 0 := by omega); subst q2)
    clear hs
    go_wp2_with (first
      | (go_at_call 89; first
          | (with_reducible refine Calls.mono (outsideP_yes _ _ _ _ (by omega)) ?_; rintro e w' ⟨rfl, rfl⟩)
          | (with_reducible refine Calls.mono (outsideP_no _ _ _ _ (by omega) (by omega)) ?_; rintro e w' ⟨rfl, rfl⟩))
      | (go_at_call 144; refine (H1.out _ a1 a2).mono ?_; rintro e w' ⟨rfl, hbl⟩; obtain ⟨os1, n1, rfl⟩ := below_plus hbl; clear hbl)
      | (go_at_call 145; refine (H2.out _).mono ?_; rintro e w' ⟨rfl, hbl⟩; obtain ⟨os2, n2, rfl⟩ := below_plus hbl; clear hbl)
      | (go_at_call 146; refine (H3.out _).mono ?_; rintro e w' ⟨rfl, hbl⟩; obtain ⟨os3, n3, rfl⟩ := below_plus hbl; clear hbl))
    first
      | (go_ret; exact ⟨rfl, (by repeat (first | exact Below.refl _ _ | refine bl_plus ?_ | refine bl_alloc ?_ _ | refine bl_drew ?_))⟩)
      | (go_loopw [31] (fun i wr => i = .int .i64 0 ∧ Hid (Below w.heap.size w wr)) (fun _ _ => 0)
         case atStart => exact ⟨rfl, hide (by repeat (first | exact Below.refl _ _ | refine bl_plus ?_ | refine bl_alloc ?_ _ | refine bl_drew ?_))⟩
         case round =>
           obtain ⟨rfl, HB⟩ := hrel
           go_wp2
           go_ret
           exact ⟨rfl, HB.out⟩)

theorem V.leaf {x : V} (h7 : x.k ≠ 7) : x.selfErr ≠ 0 ∨ x.l.length = 0 := by
  by_cases he : x.selfErr = 0
  · right
    rcases x.self_cases with ⟨_, h⟩ | ⟨_, ⟨_, h⟩ | ⟨hf, _⟩⟩
    · omega
    · omega
    · unfold V.formOk formB at hf
      simp only [Bool.and_eq_true, Bool.or_eq_true, decide_eq_true_eq] at hf
      exact hf.2.2.2.resolve_left h7
  · exact .inl he

end Go.Proofs.YtioppoaijehicaaGreatDoor
/-
  WALK: a value's error, in the program, with its items.
-/
namespace Go.Proofs.YtioppoaijehicaaGreatDoor
open Go.RowKit Go.Lib

theorem item_cases (x : V) : (x.k = 0 → itemErr x = 10) ∧ (x.k = 7 → itemErr x = 10) ∧ (x.k ≠ 0 → x.k ≠ 7 → itemErr x = x.selfErr) :=
  ⟨fun h => if_pos (.inl h), fun h => if_pos (.inr h), fun h h' => if_neg (by rintro (g | g); exact h g; exact h' g)⟩

set_option maxHeartbeats 6400000 in
set_option maxRecDepth 100000 in
theorem checkValue_list (v : V) (A : Option Addr) (c : Nat) (w : World) (hL : LAt w A v.l) (hs : v.selfErr = 0) :
    Calls Tryz.prog 100 #[v.arg A c] w fun e w' => e = .returned (.int .i64 (itemsErr v.l)) ∧ Below w.heap.size w w' := by
  have hc := v.self_cases
  rw [hs] at hc
  have hm := hL.1
  have H1 := hide (fun w h0 h7 => usesForm_any v A c w h0 h7 hm)
  have H2 := hide (fun w => checkNumbers_any v A c w)
  have H3 := hide (fun w => checkText_any v A c w)
  have HN := hide (fun h => itemsErr_none (l := v.l) h)
  have HF := hide (fun k hk h hne => itemsErr_first (l := v.l) (k := k) hk h hne)
  have HL := hide hL
  clear hL hs
  generalize itemsErr v.l = R at *
  generalize v.formOk = F at *
  generalize v.numErr = N at *
  generalize v.textErr = T at *
  obtain ⟨k, i, t, s, l⟩ := v
  simp only [V.arg, V.k, V.i, V.t, V.s, V.l] at *
  unfold maxLen at hm
  rcases hc with ⟨h, h'⟩ | ⟨⟨a1, a2⟩, ⟨rfl, h'⟩ | ⟨rfl, ⟨h, h'⟩ | ⟨rfl, ⟨h, h'⟩ | ⟨rfl, ⟨h, h'⟩ | ⟨h, -⟩⟩⟩⟩⟩
  all_goals try (exfalso; omega)
  go_enter Tryz.func100, Tryz.ntmps100
  go_wp2_with (first
      | (go_at_call 89; with_reducible refine Calls.mono (outsideP_no _ _ _ _ (by omega) (by omega)) ?_; rintro e w' ⟨rfl, rfl⟩)
      | (go_at_call 144; refine (H1.out _ a1 a2).mono ?_; rintro e w' ⟨rfl, hbl⟩; obtain ⟨os1, n1, rfl⟩ := below_plus hbl; clear hbl)
      | (go_at_call 145; refine (H2.out _).mono ?_; rintro e w' ⟨rfl, hbl⟩; obtain ⟨os2, n2, rfl⟩ := below_plus hbl; clear hbl)
      | (go_at_call 146; refine (H3.out _).mono ?_; rintro e w' ⟨rfl, hbl⟩; obtain ⟨os3, n3, rfl⟩ := below_plus hbl; clear hbl))
  clear H1 H2 H3
  have hbw : Below w.heap.size w (plus (plus (plus (w.alloc (.cells #[.int .i64 k, .int .i64 i, .int .i64 t, .string s, .slice A l.length c] 116)) os1 n1) os2 n2) os3 n3) := (by repeat (first | exact Below.refl _ _ | refine bl_plus ?_ | refine bl_alloc ?_ _ | refine bl_drew ?_))
  generalize (plus (plus (plus (w.alloc (.cells #[.int .i64 k, .int .i64 i, .int .i64 t, .string s, .slice A l.length c] 116)) os1 n1) os2 n2) os3 n3) = W at *
  have HW := hide (HL.out.below hbw)
  have HBW := hide hbw
  clear HL hbw
  go_loopw [31] (fun i wr => ∃ (k : Nat) (os : Array Obj) (n : Nat), k ≤ l.length ∧ i = .int .i64 k ∧ Hid (∀ j (hj : j < l.length), j < k → itemErr l[j] = 0) ∧ wr = plus W os n) (fun i _ => l.length - (intOf i).toNat)
  case atStart => exact ⟨0, #[], _, Nat.zero_le _, rfl, hide (fun j _ hj => by omega), plus_nil.symm⟩
  case round =>
    obtain ⟨q, os, n, hq, rfl, HK, rfl⟩ := hrel
    by_cases hlt : q < l.length
    · obtain ⟨b, o, rfl, hb, hv⟩ := HW.out.2 (by omega)
      have hf := HF.out q hlt HK.out
      obtain ⟨c0, c1, c2, c3, A2, e2, c4, hL2⟩ := VAt_iff.1 (hv q hlt)
      have HI := hide (item_cases l[q])
      have HNXT := hide (fun (h : itemErr l[q] = 0) j (hj : j < l.length) (hjq : j < q + 1) => (by
        rcases Nat.lt_or_ge j q with g | g
        · exact HK.out j hj g
        · obtain rfl : j = q := by omega
          exact h : itemErr l[j] = 0))
      have HS := hide (fun w (h7 : l[q].k ≠ 7) => checkValue_short l[q] A2 e2 w hL2.1 (V.leaf h7))
      clear hv hL2 HK
      generalize itemErr l[q] = IE at *
      generalize l[q].selfErr = SE at *
      generalize l[q] = x at *
      obtain ⟨xk, xi, xt, xs, xl⟩ := x
      simp only [V.arg, V.k, V.i, V.t, V.s, V.l] at *
      by_cases h0 : xk = 0
      · subst h0
        have hIE : IE = 10 := HI.out.1 rfl
        subst hIE
        obtain rfl := hf (by decide)
        clear HI
        go_wp2
        go_ret
        exact ⟨rfl, HBW.out.trans (Below.mono (by repeat (first | exact Below.refl _ _ | refine bl_plus ?_ | refine bl_alloc ?_ _ | refine bl_drew ?_)) HBW.out.size)⟩
      · by_cases h7 : xk = 7
        · subst h7
          have hIE : IE = 10 := HI.out.2.1 rfl
          subst hIE
          obtain rfl := hf (by decide)
          clear HI h0
          go_wp2
          go_ret
          exact ⟨rfl, HBW.out.trans (Below.mono (by repeat (first | exact Below.refl _ _ | refine bl_plus ?_ | refine bl_alloc ?_ _ | refine bl_drew ?_)) HBW.out.size)⟩
        · have hIE : IE = SE := HI.out.2.2 h0 h7
          subst hIE
          have j0 : (xk == 0) = false := beq_eq_false_iff_ne.2 h0
          have j7 : (xk == 7) = false := beq_eq_false_iff_ne.2 h7
          by_cases hz : IE = 0
          · subst hz
            clear hf HI h0
            go_wp2_with (go_at_call 100; refine (HS.out _ h7).mono ?_; rintro e w' ⟨rfl, hbl⟩; obtain ⟨os5, n5, rfl⟩ := below_plus hbl; clear hbl)
            go_roundw
            case rel => exact ⟨q + 1, _, _, hlt, by go_num, hide (HNXT.out (by trivial)), by first | rfl | (rw [plus_alloc, plus_plus])⟩
            case measure => simp [intOf]; omega
          · obtain rfl := hf hz
            have q1 := bne_iff_ne.2 hz
            clear HI h0 hz
            go_wp2_with (go_at_call 100; refine (HS.out _ h7).mono ?_; rintro e w' ⟨rfl, hbl⟩; obtain ⟨os5, n5, rfl⟩ := below_plus hbl; clear hbl)
            go_ret
            exact ⟨rfl, HBW.out.trans (Below.mono (by repeat (first | exact Below.refl _ _ | refine bl_plus ?_ | refine bl_alloc ?_ _ | refine bl_drew ?_)) HBW.out.size)⟩
    · have hR : R = 0 := HN.out (fun j hj => HK.out j hj (by omega))
      subst hR
      obtain rfl : q = l.length := by omega
      go_wp2
      go_ret
      exact ⟨rfl, HBW.out.trans (Below.mono (by repeat (first | exact Below.refl _ _ | refine bl_plus ?_ | refine bl_alloc ?_ _ | refine bl_drew ?_)) HBW.out.size)⟩

theorem checkValue_any (v : V) (A : Option Addr) (c : Nat) (w : World) (hL : LAt w A v.l) :
    Calls Tryz.prog 100 #[v.arg A c] w fun e w' => e = .returned (.int .i64 v.err) ∧ Below w.heap.size w w' := by
  unfold V.err
  by_cases h : v.selfErr = 0
  · rw [if_neg (by omega)]
    exact checkValue_list v A c w hL h
  · rw [if_pos h]
    exact checkValue_short v A c w hL.1 (.inl h)

end Go.Proofs.YtioppoaijehicaaGreatDoor
