/-
  PLAIN AND WALKS: the name of a property, in the program and in the reference.
-/
import Derived.Test.YtidpfjdlchffcaaDoorPva
set_option linter.all false
namespace Go.Proofs.YtidpfjdlchffcaaDoor
open Go.RowKit Go.Lib

def nameChar (b : UInt8) : Bool := decide (97 ≤ b.toNat ∧ b.toNat ≤ 122) || (decide (48 ≤ b.toNat ∧ b.toNat ≤ 57) || decide (b.toNat = 45))

def isName (l : List UInt8) : Bool := match l with
  | [] => false
  | b :: r => decide (r.length < 20) && (decide (97 ≤ b.toNat ∧ b.toNat ≤ 122) && (b :: r).all nameChar)

def nameErr (s : ByteArray) : Int := if isName s.data.toList = true then 0 else 3

def nameSet : List UInt8 := [97, 98, 99, 100, 101, 102, 103, 104, 105, 106, 107, 108, 109, 110, 111, 112, 113, 114, 115, 116, 117, 118, 119, 120, 121, 122, 48, 49, 50, 51, 52, 53, 54, 55, 56, 57, 45]

theorem nameSet_contains (b : UInt8) : nameSet.contains b = nameChar b := by
  have h : ∀ n : Fin 256, nameSet.contains (UInt8.ofNat n.val) = nameChar (UInt8.ofNat n.val) := by decide +kernel
  have := h ⟨b.toNat, UInt8.toNat_lt b⟩
  simpa using this

theorem dropWhile_nil_of {α : Type} (p : α → Bool) : ∀ l : List α, l.dropWhile p = [] → ∀ x ∈ l, p x = true
  | [], _, x, hx => by cases hx
  | a :: t, h, x, hx => by
    by_cases ha : p a = true
    · rw [List.dropWhile_cons_of_pos ha] at h
      rcases List.mem_cons.1 hx with rfl | hx
      · exact ha
      · exact dropWhile_nil_of p t h x hx
    · rw [List.dropWhile_cons_of_neg ha] at h
      cases h

theorem dropWhile_all {α : Type} (p : α → Bool) : ∀ l : List α, (∀ x ∈ l, p x = true) → l.dropWhile p = []
  | [], _ => rfl
  | a :: t, h => by
    rw [List.dropWhile_cons_of_pos (h a (List.mem_cons_self ..))]
    exact dropWhile_all p t (fun x hx => h x (List.mem_cons_of_mem _ hx))

theorem dropWhile_head_of {α : Type} (p : α → Bool) : ∀ (l : List α) (a : α) (t : List α), l.dropWhile p = a :: t → p a = false
  | [], a, t, h => by cases h
  | b :: l, a, t, h => by
    by_cases hb : p b = true
    · rw [List.dropWhile_cons_of_pos hb] at h
      exact dropWhile_head_of p l a t h
    · rw [List.dropWhile_cons_of_neg hb] at h
      cases h
      simpa using hb

theorem trimS_empty (d cs : List UInt8) : (Lib.trimS d cs).isEmpty = d.all (cs.contains ·) := by
  unfold Lib.trimS Lib.trimLeftS Lib.trimRightS
  cases hall : d.all (cs.contains ·) with
  | true =>
    have h : ∀ x ∈ d, cs.contains x = true := List.all_eq_true.1 hall
    rw [dropWhile_all _ d.reverse (fun x hx => h x (List.mem_reverse.1 hx))]
    rfl
  | false =>
    cases h2 : d.reverse.dropWhile (cs.contains ·) with
    | nil =>
      have h3 := dropWhile_nil_of _ _ h2
      have : d.all (cs.contains ·) = true := List.all_eq_true.2 (fun x hx => h3 x (List.mem_reverse.2 hx))
      rw [this] at hall
      cases hall
    | cons a t =>
      have h3 := dropWhile_head_of _ _ _ _ h2
      cases h4 : (a :: t).reverse.dropWhile (cs.contains ·) with
      | nil =>
        have h5 := dropWhile_nil_of _ _ h4 a (by simp)
        rw [h3] at h5
        cases h5
      | cons b r => rfl

theorem all_bad {l : List UInt8} {p : UInt8 → Bool} {j : Nat} {c : UInt8} (hj : l[j]? = some c) (hc : p c = false) : l.all p = false := by
  cases ha : l.all p with
  | false => rfl
  | true => rw [List.all_eq_true.1 ha c (List.mem_of_getElem? hj)] at hc; cases hc

theorem toList_empty (s : ByteArray) : s.toList.isEmpty = decide (s.size = 0) := by
  rw [Lib.toList_data, Lib.size_eq]
  cases s.data.toList <;> simp

/-- What is asked of a name, test by test. -/
theorem name_cases (s : ByteArray) : (s.size = 0 ∧ isName s.data.toList = false) ∨ (0 < s.size ∧ 20 < s.size ∧ isName s.data.toList = false) ∨
    (0 < s.size ∧ s.size ≤ 20 ∧ ∃ b : UInt8, s.data.toList[0]? = some b ∧ ((b.toNat < 97 ∧ isName s.data.toList = false) ∨ (97 ≤ b.toNat ∧ 122 < b.toNat ∧ isName s.data.toList = false) ∨
      (97 ≤ b.toNat ∧ b.toNat ≤ 122 ∧ isName s.data.toList = s.data.toList.all nameChar))) := by
  rw [Lib.size_eq]
  cases h : s.data.toList with
  | nil => exact .inl ⟨rfl, rfl⟩
  | cons b r =>
    simp only [List.length_cons, isName]
    by_cases h1 : 20 < r.length + 1
    · exact .inr (.inl ⟨by omega, h1, by rw [decide_eq_false (by omega)]; rfl⟩)
    · refine .inr (.inr ⟨by omega, by omega, b, rfl, ?_⟩)
      rw [decide_eq_true (show r.length < 20 by omega), Bool.true_and]
      by_cases h2 : b.toNat < 97
      · exact .inl ⟨h2, by rw [decide_eq_false (by omega)]; rfl⟩
      · by_cases h3 : 122 < b.toNat
        · exact .inr (.inl ⟨by omega, h3, by rw [decide_eq_false (by omega)]; rfl⟩)
        · exact .inr (.inr ⟨by omega, by omega, by rw [decide_eq_true (show 97 ≤ b.toNat ∧ b.toNat ≤ 122 from ⟨by omega, by omega⟩), Bool.true_and]⟩)

theorem nameChar_cases (c : UInt8) : (97 ≤ c.toNat ∧ c.toNat ≤ 122 ∧ nameChar c = true) ∨ (97 ≤ c.toNat ∧ 122 < c.toNat ∧ nameChar c = false) ∨ (c.toNat < 97 ∧ 48 ≤ c.toNat ∧ c.toNat ≤ 57 ∧ nameChar c = true) ∨
    (c.toNat < 97 ∧ 48 ≤ c.toNat ∧ 57 < c.toNat ∧ nameChar c = false) ∨ (c.toNat < 48 ∧ c.toNat = 45 ∧ nameChar c = true) ∨ (c.toNat < 48 ∧ c.toNat ≠ 45 ∧ nameChar c = false) := by
  unfold nameChar
  by_cases a : 97 ≤ c.toNat <;> by_cases b : c.toNat ≤ 122 <;> by_cases d : 48 ≤ c.toNat <;> by_cases e : c.toNat ≤ 57 <;> by_cases f : c.toNat = 45 <;> simp [a, b, d, e, f] <;> omega

set_option maxHeartbeats 1600000 in
set_option maxRecDepth 100000 in
theorem checkName_any (s : ByteArray) (w : World) : Calls Tryd.prog 42 #[.string s] w fun e w' => e = .returned (.int .i64 (nameErr s)) ∧ Below w.heap.size w w' := by
  unfold nameErr
  have hemp := toList_empty s
  rcases name_cases s with ⟨h0, hn⟩ | ⟨h0, h1, hn⟩ | ⟨h0, h1, b, hb, ⟨h2, hn⟩ | ⟨h2, h3, hn⟩ | ⟨h2, h3, hn⟩⟩
  · rw [hn, if_neg Bool.false_ne_true]
    rw [decide_eq_true h0] at hemp
    clear hn h0
    go_enter Tryd.func42, Tryd.ntmps42
    go_wp2
    go_ret
    exact ⟨rfl, Below.refl _ _⟩
  · rw [hn, if_neg Bool.false_ne_true]
    rw [decide_eq_false (by omega)] at hemp
    clear hn
    have i1 : (20 : Int) < (s.size : Int) := by omega
    go_enter Tryd.func42, Tryd.ntmps42
    go_wp2
    go_ret
    exact ⟨rfl, Below.refl _ _⟩
  · rw [hn, if_neg Bool.false_ne_true]
    rw [decide_eq_false (by omega)] at hemp
    have ix := idx_str hb
    clear hn hb
    have i1 : ¬ (20 : Int) < (s.size : Int) := by omega
    have i2 : (b.toNat : Int) < 97 := by omega
    rw [show (((0 : Nat) : Int)) = 0 from rfl] at ix
    go_enter Tryd.func42, Tryd.ntmps42
    go_wp2
    go_ret
    exact ⟨rfl, Below.refl _ _⟩
  · rw [hn, if_neg Bool.false_ne_true]
    rw [decide_eq_false (by omega)] at hemp
    have ix := idx_str hb
    clear hn hb
    have i1 : ¬ (20 : Int) < (s.size : Int) := by omega
    have i2 : ¬ (b.toNat : Int) < 97 := by omega
    have i3 : (122 : Int) < (b.toNat : Int) := by omega
    rw [show (((0 : Nat) : Int)) = 0 from rfl] at ix
    go_enter Tryd.func42, Tryd.ntmps42
    go_wp2
    go_ret
    exact ⟨rfl, Below.refl _ _⟩
  · rw [hn]
    rw [decide_eq_false (by omega)] at hemp
    have ix := idx_str hb
    clear hn hb
    have i1 : ¬ (20 : Int) < (s.size : Int) := by omega
    have i2 : ¬ (b.toNat : Int) < 97 := by omega
    have i3 : ¬ (122 : Int) < (b.toNat : Int) := by omega
    rw [show (((0 : Nat) : Int)) = 0 from rfl] at ix
    have HALL := hide (fun (h : ∀ j c, j < s.size → s.data.toList[j]? = some c → nameChar c = true) => List.all_eq_true.2 (fun c hc => by
      obtain ⟨j, hj, rfl⟩ := List.getElem_of_mem hc
      exact h j _ (by rw [Lib.size_eq]; exact hj) (List.getElem?_eq_getElem hj)))
    have HBAD := hide (fun (j : Nat) (c : UInt8) (hj : s.data.toList[j]? = some c) (hc : nameChar c = false) => all_bad hj hc)
    generalize s.data.toList.all nameChar = R at *
    go_enter Tryd.func42, Tryd.ntmps42
    go_wp2
    go_loop [24] (fun i => ∃ k : Nat, k ≤ s.size ∧ i = .int .i64 k ∧ Hid (∀ j c, j < k → s.data.toList[j]? = some c → nameChar c = true)) (fun i => s.size - (intOf i).toNat)
    case atStart => exact ⟨0, Nat.zero_le _, rfl, hide (fun j c hj => by omega)⟩
    case round =>
      obtain ⟨k, hk, rfl, HK⟩ := hrel
      clear ix
      by_cases hlt : k < s.size
      · obtain ⟨c, hc⟩ : ∃ c, s.data.toList[k]? = some c := ⟨_, List.getElem?_eq_getElem (by rw [← Lib.size_eq]; exact hlt)⟩
        have ix := idx_str hc
        have HC := hide hc
        clear hc
        rcases nameChar_cases c with ⟨g1, g2, hn⟩ | ⟨g1, g2, hn⟩ | ⟨g1, g2, g3, hn⟩ | ⟨g1, g2, g3, hn⟩ | ⟨g1, g2, hn⟩ | ⟨g1, g2, hn⟩
        · have HN := hide hn
          clear hn
          have j1 : (97 : Int) ≤ (c.toNat : Int) := by omega
          have j2 : (c.toNat : Int) ≤ 122 := by omega
          go_wp2
          go_round
          case rel =>
            refine ⟨k + 1, hlt, by go_num, hide (fun j d hj hd => ?_)⟩
            rcases Nat.lt_or_ge j k with h | h
            · exact HK.out j d h hd
            · obtain rfl : j = k := by omega
              rw [HC.out] at hd; cases hd; exact HN.out
          case measure => simp [intOf]; omega
        · have hR := HBAD.out k c HC.out hn
          subst hR
          clear hn
          have j1 : (97 : Int) ≤ (c.toNat : Int) := by omega
          have j2 : ¬ (c.toNat : Int) ≤ 122 := by omega
          have j3 : (48 : Int) ≤ (c.toNat : Int) := by omega
          have j4 : ¬ (c.toNat : Int) ≤ 57 := by omega
          have j5 : ((c.toNat : Int) == 45) = false := beq_eq_false_iff_ne.2 (by omega)
          go_wp2
          go_ret
          exact ⟨rfl, Below.refl _ _⟩
        · have HN := hide hn
          clear hn
          have j1 : ¬ (97 : Int) ≤ (c.toNat : Int) := by omega
          have j3 : (48 : Int) ≤ (c.toNat : Int) := by omega
          have j4 : (c.toNat : Int) ≤ 57 := by omega
          go_wp2
          go_round
          case rel =>
            refine ⟨k + 1, hlt, by go_num, hide (fun j d hj hd => ?_)⟩
            rcases Nat.lt_or_ge j k with h | h
            · exact HK.out j d h hd
            · obtain rfl : j = k := by omega
              rw [HC.out] at hd; cases hd; exact HN.out
          case measure => simp [intOf]; omega
        · have hR := HBAD.out k c HC.out hn
          subst hR
          clear hn
          have j1 : ¬ (97 : Int) ≤ (c.toNat : Int) := by omega
          have j3 : (48 : Int) ≤ (c.toNat : Int) := by omega
          have j4 : ¬ (c.toNat : Int) ≤ 57 := by omega
          have j5 : ((c.toNat : Int) == 45) = false := beq_eq_false_iff_ne.2 (by omega)
          go_wp2
          go_ret
          exact ⟨rfl, Below.refl _ _⟩
        · have HN := hide hn
          clear hn
          have j1 : ¬ (97 : Int) ≤ (c.toNat : Int) := by omega
          have j3 : ¬ (48 : Int) ≤ (c.toNat : Int) := by omega
          have j5 : ((c.toNat : Int) == 45) = true := beq_iff_eq.2 (by omega)
          go_wp2
          go_round
          case rel =>
            refine ⟨k + 1, hlt, by go_num, hide (fun j d hj hd => ?_)⟩
            rcases Nat.lt_or_ge j k with h | h
            · exact HK.out j d h hd
            · obtain rfl : j = k := by omega
              rw [HC.out] at hd; cases hd; exact HN.out
          case measure => simp [intOf]; omega
        · have hR := HBAD.out k c HC.out hn
          subst hR
          clear hn
          have j1 : ¬ (97 : Int) ≤ (c.toNat : Int) := by omega
          have j3 : ¬ (48 : Int) ≤ (c.toNat : Int) := by omega
          have j5 : ((c.toNat : Int) == 45) = false := beq_eq_false_iff_ne.2 (by omega)
          go_wp2
          go_ret
          exact ⟨rfl, Below.refl _ _⟩
      · obtain rfl : k = s.size := by omega
        have hR : R = true := HALL.out HK.out
        subst hR
        go_wp2
        go_ret
        exact ⟨rfl, Below.refl _ _⟩

end Go.Proofs.YtidpfjdlchffcaaDoor
