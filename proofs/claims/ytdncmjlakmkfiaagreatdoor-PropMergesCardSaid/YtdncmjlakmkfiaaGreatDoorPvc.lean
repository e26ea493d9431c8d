/-
  WALKS: what is asked of a text: control bytes, letters among others, cut sides.
-/
import Derived.Test.YtdncmjlakmkfiaaGreatDoorIxc
import Derived.Test.YtdncmjlakmkfiaaGreatDoorVal
set_option linter.all false
namespace Go.Proofs
open Go.Shelf Go.RowKit

theorem Tryz.trim_any (s cutset : ByteArray) (w : World) (hs : s.size ≤ 9223372036854775807) (hcs : cutset.size < 4294967281)
    (hascii : (cutset.data.toList.all fun b => decide (b.toNat < 128)) = true) :
    Calls Tryz.prog 67 #[.string s, .string cutset] w fun e w' => e = .returned (.string ⟨(Lib.trimS s.data.toList cutset.data.toList).toArray⟩) ∧ Below w.heap.size w w' :=
  Any.strings_Trim_laid Tryz.trimL (by kernel_rfl) s cutset w hs hcs (fun _ b hb => of_decide_eq_true (List.all_eq_true.1 hascii b (List.mem_of_getElem? hb)))
end Go.Proofs
namespace Go.Proofs.YtdncmjlakmkfiaaGreatDoor
open Go.RowKit Go.Lib

def ctlP (x : Nat) : Bool := decide (x < 32) || (x == 127)

/-- Has a text a control byte? -/
def ctl (s : ByteArray) : Bool := decide (0 ≤ Lib.idxFunc ctlP true s)

set_option maxHeartbeats 800000 in
theorem ctlA_any (x : Nat) (hx : x ≤ 1114111) (w : World) : Calls Tryz.prog 152 #[.int .i32 x] w fun e w' => e = .returned (.bool (ctlP x)) ∧ w' = w := by
  unfold ctlP
  by_cases h : x < 32
  · have h2 : (x : Int) < 32 := by omega
    go_enter Tryz.func152, Tryz.ntmps152
    go_wp2
    go_ret
    exact ⟨by simp [h], rfl⟩
  · have h2 : ¬ (x : Int) < 32 := by omega
    have h3 : ((x : Int) == 127) = (x == 127) := by
      by_cases e : x = 127
      · subst e; rfl
      · rw [beq_eq_false_iff_ne.2 e, beq_eq_false_iff_ne.2 (by omega)]
    go_enter Tryz.func152, Tryz.ntmps152
    go_wp2
    go_ret
    exact ⟨by simp [h], rfl⟩

set_option maxHeartbeats 800000 in
theorem ctlB_any (x : Nat) (hx : x ≤ 1114111) (w : World) : Calls Tryz.prog 116 #[.int .i32 x] w fun e w' => e = .returned (.bool (ctlP x)) ∧ w' = w := by
  unfold ctlP
  by_cases h : x < 32
  · have h2 : (x : Int) < 32 := by omega
    go_enter Tryz.func116, Tryz.ntmps116
    go_wp2
    go_ret
    exact ⟨by simp [h], rfl⟩
  · have h2 : ¬ (x : Int) < 32 := by omega
    have h3 : ((x : Int) == 127) = (x == 127) := by
      by_cases e : x = 127
      · subst e; rfl
      · rw [beq_eq_false_iff_ne.2 e, beq_eq_false_iff_ne.2 (by omega)]
    go_enter Tryz.func116, Tryz.ntmps116
    go_wp2
    go_ret
    exact ⟨by simp [h], rfl⟩

theorem predA (w : World) : PredAtRunes Tryz.prog 152 #[] ctlP w := fun W x hx _ =>
  (ctlA_any x hx W).mono fun _ _ ⟨he, hw⟩ => ⟨he, 0, by rw [hw]; rfl⟩

theorem predB (w : World) : PredAtRunes Tryz.prog 116 #[] ctlP w := fun W x hx _ =>
  (ctlB_any x hx W).mono fun _ _ ⟨he, hw⟩ => ⟨he, 0, by rw [hw]; rfl⟩

theorem hasControl_any (s : ByteArray) (w : World) : Calls Tryz.prog 104 #[.string s] w fun e w' => e = .returned (.bool (ctl s)) ∧ Below w.heap.size w w' := by
  have H := hide (fun w => Any.strings_ContainsFunc_runes Tryz.cfunL 152 #[] (fun args w => Go.Proofs.enters_of Tryz.func152 (by kernel_rfl) rfl args w) ctlP s w (predA w))
  unfold ctl
  go_enter Tryz.func104, Tryz.ntmps104
  go_wp2_with (go_at_call 115; refine (H.out _).mono ?_; rintro e w' ⟨rfl, hb⟩; have HB := hide hb; clear hb)
  go_ret
  exact ⟨rfl, HB.out⟩

theorem lowByte_any (s : ByteArray) (w : World) : Calls Tryz.prog 66 #[.string s] w fun e w' => e = .returned (.bool (ctl s)) ∧ Below w.heap.size w w' := by
  have H := hide (fun w => Any.strings_ContainsFunc_runes Tryz.cfunL 116 #[] (fun args w => Go.Proofs.enters_of Tryz.func116 (by kernel_rfl) rfl args w) ctlP s w (predB w))
  unfold ctl
  go_enter Tryz.func66, Tryz.ntmps66
  go_wp2_with (go_at_call 115; refine (H.out _).mono ?_; rintro e w' ⟨rfl, hb⟩; have HB := hide hb; clear hb)
  go_ret
  exact ⟨rfl, HB.out⟩

theorem containsAny_any (s chars : ByteArray) (w : World) (h2 : 2 ≤ chars.size) (hc : chars.size ≤ 1000) (hs : s.size < 4294967281) (ha : Ascii chars) :
    Calls Tryz.prog 68 #[.string s, .string chars] w fun e w' => e = .returned (.bool (Lib.containsAny s.data.toList chars.data.toList)) ∧ Below w.heap.size w w' := by
  have H := hide (fun w => indexAny_any s chars w h2 hc hs ha)
  unfold Lib.containsAny
  clear ha
  generalize Lib.indexAny s.data.toList chars.data.toList = k at *
  go_enter Tryz.func68, Tryz.ntmps68
  go_wp2_with (go_at_call 62; refine (H.out _).mono ?_; rintro e w' ⟨rfl, hb⟩; have HB := hide hb; clear hb)
  go_ret
  exact ⟨rfl, HB.out⟩

end Go.Proofs.YtdncmjlakmkfiaaGreatDoor
/-
  PLAIN AND WALKS: the name of a property, in the program and in the reference.
-/
namespace Go.Proofs.YtdncmjlakmkfiaaGreatDoor
open Go.RowKit Go.Lib

def nameChar (b : UInt8) : Bool := decide (97 ≤ b.toNat ∧ b.toNat ≤ 122) || (decide (48 ≤ b.toNat ∧ b.toNat ≤ 57) || decide (b.toNat = 45))

def isName (l : List UInt8) : Bool := match l with
  | [] => false
  | b :: r => decide (r.length < 20) && (decide (97 ≤ b.toNat ∧ b.toNat ≤ 122) && (b :: r).all nameChar)

def nameErr (s : ByteArray) : Int := if isName s.data.toList = true then 0 else 3

def nameSet : List UInt8 := [97, 98, 99, 100, 101, 102, 103, 104, 105, 106, 107, 108, 109, 110, 111, 112, 113, 114, 115, 116, 117, 118, 119, 120, 121, 122, 48, 49, 50, 51, 52, 53, 54, 55, 56, 57, 45]

theorem nameSet_contains (b : UInt8) : nameSet.contains b = nameChar b := by
  have h : ∀ n : Fin 256, nameSet.contains (UInt8.ofNat n.val) = nameChar (UInt8.ofNat n.val) := by decide +kernel
  have := h ⟨b.toNat, UInt8.toNat_lt b⟩
  simpa using this

theorem dropWhile_nil_of {α : Type} (p : α → Bool) : ∀ l : List α, l.dropWhile p = [] → ∀ x ∈ l, p x = true
  | [], _, x, hx => by cases hx
  | a :: t, h, x, hx => by
    by_cases ha : p a = true
    · rw [List.dropWhile_cons_of_pos ha] at h
      rcases List.mem_cons.1 hx with rfl | hx
      · exact ha
      · exact dropWhile_nil_of p t h x hx
    · rw [List.dropWhile_cons_of_neg ha] at h
      cases h

theorem dropWhile_all {α : Type} (p : α → Bool) : ∀ l : List α, (∀ x ∈ l, p x = true) → l.dropWhile p = []
  | [], _ => rfl
  | a :: t, h => by
    rw [List.dropWhile_cons_of_pos (h a (List.mem_cons_self ..))]
    exact dropWhile_all p t (fun x hx => h x (List.mem_cons_of_mem _ hx))

theorem dropWhile_head_of {α : Type} (p : α → Bool) : ∀ (l : List α) (a : α) (t : List α), l.dropWhile p = a :: t → p a = false
  | [], a, t, h => by cases h
  | b :: l, a, t, h => by
    by_cases hb : p b = true
    · rw [List.dropWhile_cons_of_pos hb] at h
      exact dropWhile_head_of p l a t h
    · rw [List.dropWhile_cons_of_neg hb] at h
      cases h
      simpa using hb

theorem trimS_empty (d cs : List UInt8) : (Lib.trimS d cs).isEmpty = d.all (cs.contains ·) := by
  unfold Lib.trimS Lib.trimLeftS Lib.trimRightS
  cases hall : d.all (cs.contains ·) with
  | true =>
    have h : ∀ x ∈ d, cs.contains x = true := List.all_eq_true.1 hall
    rw [dropWhile_all _ d.reverse (fun x hx => h x (List.mem_reverse.1 hx))]
    rfl
  | false =>
    cases h2 : d.reverse.dropWhile (cs.contains ·) with
    | nil =>
      have h3 := dropWhile_nil_of _ _ h2
      have : d.all (cs.contains ·) = true := List.all_eq_true.2 (fun x hx => h3 x (List.mem_reverse.2 hx))
      rw [this] at hall
      cases hall
    | cons a t =>
      have h3 := dropWhile_head_of _ _ _ _ h2
      cases h4 : (a :: t).reverse.dropWhile (cs.contains ·) with
      | nil =>
        have h5 := dropWhile_nil_of _ _ h4 a (by simp)
        rw [h3] at h5
        cases h5
      | cons b r => rfl

theorem all_bad {l : List UInt8} {p : UInt8 → Bool} {j : Nat} {c : UInt8} (hj : l[j]? = some c) (hc : p c = false) : l.all p = false := by
  cases ha : l.all p with
  | false => rfl
  | true => rw [List.all_eq_true.1 ha c (List.mem_of_getElem? hj)] at hc; cases hc

theorem toList_empty (s : ByteArray) : s.toList.isEmpty = decide (s.size = 0) := by
  rw [Lib.toList_data, Lib.size_eq]
  cases s.data.toList <;> simp

/-- What is asked of a name, test by test. -/
theorem name_cases (s : ByteArray) : (s.size = 0 ∧ isName s.data.toList = false) ∨ (0 < s.size ∧ 20 < s.size ∧ isName s.data.toList = false) ∨
    (0 < s.size ∧ s.size ≤ 20 ∧ ∃ b : UInt8, s.data.toList[0]? = some b ∧ ((b.toNat < 97 ∧ isName s.data.toList = false) ∨ (97 ≤ b.toNat ∧ 122 < b.toNat ∧ isName s.data.toList = false) ∨
      (97 ≤ b.toNat ∧ b.toNat ≤ 122 ∧ isName s.data.toList = s.data.toList.all nameChar))) := by
  rw [Lib.size_eq]
  cases h : s.data.toList with
  | nil => exact .inl ⟨rfl, rfl⟩
  | cons b r =>
    simp only [List.length_cons, isName]
    by_cases h1 : 20 < r.length + 1
    · exact .inr (.inl ⟨by omega, h1, by rw [decide_eq_false (by omega)]; rfl⟩)
    · refine .inr (.inr ⟨by omega, by omega, b, rfl, ?_⟩)
      rw [decide_eq_true (show r.length < 20 by omega), Bool.true_and]
      by_cases h2 : b.toNat < 97
      · exact .inl ⟨h2, by rw [decide_eq_false (by omega)]; rfl⟩
      · by_cases h3 : 122 < b.toNat
        · exact .inr (.inl ⟨by omega, h3, by rw [decide_eq_false (by omega)]; rfl⟩)
        · exact .inr (.inr ⟨by omega, by omega, by rw [decide_eq_true (show 97 ≤ b.toNat ∧ b.toNat ≤ 122 from ⟨by omega, by omega⟩), Bool.true_and]⟩)

theorem nameChar_cases (c : UInt8) : (97 ≤ c.toNat ∧ c.toNat ≤ 122 ∧ nameChar c = true) ∨ (97 ≤ c.toNat ∧ 122 < c.toNat ∧ nameChar c = false) ∨ (c.toNat < 97 ∧ 48 ≤ c.toNat ∧ c.toNat ≤ 57 ∧ nameChar c = true) ∨
    (c.toNat < 97 ∧ 48 ≤ c.toNat ∧ 57 < c.toNat ∧ nameChar c = false) ∨ (c.toNat < 48 ∧ c.toNat = 45 ∧ nameChar c = true) ∨ (c.toNat < 48 ∧ c.toNat ≠ 45 ∧ nameChar c = false) := by
  unfold nameChar
  by_cases a : 97 ≤ c.toNat <;> by_cases b : c.toNat ≤ 122 <;> by_cases d : 48 ≤ c.toNat <;> by_cases e : c.toNat ≤ 57 <;> by_cases f : c.toNat = 45 <;> simp [a, b, d, e, f] <;> omega

set_option maxHeartbeats 1600000 in
set_option maxRecDepth 100000 in
theorem checkName_any (s : ByteArray) (w : World) : Calls Tryz.prog 74 #[.string s] w fun e w' => e = .returned (.int .i64 (nameErr s)) ∧ Below w.heap.size w w' := by
  unfold nameErr
  have hemp := toList_empty s
  rcases name_cases s with ⟨h0, hn⟩ | ⟨h0, h1, hn⟩ | ⟨h0, h1, b, hb, ⟨h2, hn⟩ | ⟨h2, h3, hn⟩ | ⟨h2, h3, hn⟩⟩
  · rw [hn, if_neg Bool.false_ne_true]
    rw [decide_eq_true h0] at hemp
    clear hn h0
    go_enter Tryz.func74, Tryz.ntmps74
    go_wp2
    go_ret
    exact ⟨rfl, Below.refl _ _⟩
  · rw [hn, if_neg Bool.false_ne_true]
    rw [decide_eq_false (by omega)] at hemp
    clear hn
    have i1 : (20 : Int) < (s.size : Int) := by omega
    go_enter Tryz.func74, Tryz.ntmps74
    go_wp2
    go_ret
    exact ⟨rfl, Below.refl _ _⟩
  · rw [hn, if_neg Bool.false_ne_true]
    rw [decide_eq_false (by omega)] at hemp
    have ix := idx_str hb
    clear hn hb
    have i1 : ¬ (20 : Int) < (s.size : Int) := by omega
    have i2 : (b.toNat : Int) < 97 := by omega
    rw [show (((0 : Nat) : Int)) = 0 from rfl] at ix
    go_enter Tryz.func74, Tryz.ntmps74
    go_wp2
    go_ret
    exact ⟨rfl, Below.refl _ _⟩
  · rw [hn, if_neg Bool.false_ne_true]
    rw [decide_eq_false (by omega)] at hemp
    have ix := idx_str hb
    clear hn hb
    have i1 : ¬ (20 : Int) < (s.size : Int) := by omega
    have i2 : ¬ (b.toNat : Int) < 97 := by omega
    have i3 : (122 : Int) < (b.toNat : Int) := by omega
    rw [show (((0 : Nat) : Int)) = 0 from rfl] at ix
    go_enter Tryz.func74, Tryz.ntmps74
    go_wp2
    go_ret
    exact ⟨rfl, Below.refl _ _⟩
  · rw [hn]
    rw [decide_eq_false (by omega)] at hemp
    have ix := idx_str hb
    clear hn hb
    have i1 : ¬ (20 : Int) < (s.size : Int) := by omega
    have i2 : ¬ (b.toNat : Int) < 97 := by omega
    have i3 : ¬ (122 : Int) < (b.toNat : Int) := by omega
    rw [show (((0 : Nat) : Int)) = 0 from rfl] at ix
    have HALL := hide (fun (h : ∀ j c, j < s.size → s.data.toList[j]? = some c → nameChar c = true) => List.all_eq_true.2 (fun c hc => by
      obtain ⟨j, hj, rfl⟩ := List.getElem_of_mem hc
      exact h j _ (by rw [Lib.size_eq]; exact hj) (List.getElem?_eq_getElem hj)))
    have HBAD := hide (fun (j : Nat) (c : UInt8) (hj : s.data.toList[j]? = some c) (hc : nameChar c = false) => all_bad hj hc)
    generalize s.data.toList.all nameChar = R at *
    go_enter Tryz.func74, Tryz.ntmps74
    go_wp2
    go_loop [24] (fun i => ∃ k : Nat, k ≤ s.size ∧ i = .int .i64 k ∧ Hid (∀ j c, j < k → s.data.toList[j]? = some c → nameChar c = true)) (fun i => s.size - (intOf i).toNat)
    case atStart => exact ⟨0, Nat.zero_le _, rfl, hide (fun j c hj => by omega)⟩
    case round =>
      obtain ⟨k, hk, rfl, HK⟩ := hrel
      clear ix
      by_cases hlt : k < s.size
      · obtain ⟨c, hc⟩ : ∃ c, s.data.toList[k]? = some c := ⟨_, List.getElem?_eq_getElem (by rw [← Lib.size_eq]; exact hlt)⟩
        have ix := idx_str hc
        have HC := hide hc
        clear hc
        rcases nameChar_cases c with ⟨g1, g2, hn⟩ | ⟨g1, g2, hn⟩ | ⟨g1, g2, g3, hn⟩ | ⟨g1, g2, g3, hn⟩ | ⟨g1, g2, hn⟩ | ⟨g1, g2, hn⟩
        · have HN := hide hn
          clear hn
          have j1 : (97 : Int) ≤ (c.toNat : Int) := by omega
          have j2 : (c.toNat : Int) ≤ 122 := by omega
          go_wp2
          go_round
          case rel =>
            refine ⟨k + 1, hlt, by go_num, hide (fun j d hj hd => ?_)⟩
            rcases Nat.lt_or_ge j k with h | h
            · exact HK.out j d h hd
            · obtain rfl : j = k := by omega
              rw [HC.out] at hd; cases hd; exact HN.out
          case measure => simp [intOf]; omega
        · have hR := HBAD.out k c HC.out hn
          subst hR
          clear hn
          have j1 : (97 : Int) ≤ (c.toNat : Int) := by omega
          have j2 : ¬ (c.toNat : Int) ≤ 122 := by omega
          have j3 : (48 : Int) ≤ (c.toNat : Int) := by omega
          have j4 : ¬ (c.toNat : Int) ≤ 57 := by omega
          have j5 : ((c.toNat : Int) == 45) = false := beq_eq_false_iff_ne.2 (by omega)
          go_wp2
          go_ret
          exact ⟨rfl, Below.refl _ _⟩
        · have HN := hide hn
          clear hn
          have j1 : ¬ (97 : Int) ≤ (c.toNat : Int) := by omega
          have j3 : (48 : Int) ≤ (c.toNat : Int) := by omega
          have j4 : (c.toNat : Int) ≤ 57 := by omega
          go_wp2
          go_round
          case rel =>
            refine ⟨k + 1, hlt, by go_num, hide (fun j d hj hd => ?_)⟩
            rcases Nat.lt_or_ge j k with h | h
            · exact HK.out j d h hd
            · obtain rfl : j = k := by omega
              rw [HC.out] at hd; cases hd; exact HN.out
          case measure => simp [intOf]; omega
        · have hR := HBAD.out k c HC.out hn
          subst hR
          clear hn
          have j1 : ¬ (97 : Int) ≤ (c.toNat : Int) := by omega
          have j3 : (48 : Int) ≤ (c.toNat : Int) := by omega
          have j4 : ¬ (c.toNat : Int) ≤ 57 := by omega
          have j5 : ((c.toNat : Int) == 45) = false := beq_eq_false_iff_ne.2 (by omega)
          go_wp2
          go_ret
          exact ⟨rfl, Below.refl _ _⟩
        · have HN := hide hn
          clear hn
          have j1 : ¬ (97 : Int) ≤ (c.toNat : Int) := by omega
          have j3 : ¬ (48 : Int) ≤ (c.toNat : Int) := by omega
          have j5 : ((c.toNat : Int) == 45) = true := beq_iff_eq.2 (by omega)
          go_wp2
          go_round
          case rel =>
            refine ⟨k + 1, hlt, by go_num, hide (fun j d hj hd => ?_)⟩
            rcases Nat.lt_or_ge j k with h | h
            · exact HK.out j d h hd
            · obtain rfl : j = k := by omega
              rw [HC.out] at hd; cases hd; exact HN.out
          case measure => simp [intOf]; omega
        · have hR := HBAD.out k c HC.out hn
          subst hR
          clear hn
          have j1 : ¬ (97 : Int) ≤ (c.toNat : Int) := by omega
          have j3 : ¬ (48 : Int) ≤ (c.toNat : Int) := by omega
          have j5 : ((c.toNat : Int) == 45) = false := beq_eq_false_iff_ne.2 (by omega)
          go_wp2
          go_ret
          exact ⟨rfl, Below.refl _ _⟩
      · obtain rfl : k = s.size := by omega
        have hR : R = true := HALL.out HK.out
        subst hR
        go_wp2
        go_ret
        exact ⟨rfl, Below.refl _ _⟩

set_option maxHeartbeats 1600000 in
set_option maxRecDepth 100000 in
theorem isName_any (s : ByteArray) (w : World) (hs : s.size ≤ 9223372036854775807) : Calls Tryz.prog 81 #[.string s] w fun e w' => e = .returned (.bool (isName s.data.toList)) ∧ Below w.heap.size w w' := by
  have htr := fun w => Tryz.trim_any s ⟨nameSet.toArray⟩ w hs (by decide) (by decide)
  have hte := trimS_empty s.data.toList nameSet
  have hfun : (fun b => nameSet.contains b) = nameChar := funext nameSet_contains
  rw [hfun] at hte
  rcases name_cases s with ⟨h0, hn⟩ | ⟨h0, h1, hn⟩ | ⟨h0, h1, b, hb, ⟨h2, hn⟩ | ⟨h2, h3, hn⟩ | ⟨h2, h3, hn⟩⟩
  · rw [hn]
    clear hn htr hte hfun
    have i1 : ¬ (1 : Int) ≤ (s.size : Int) := by omega
    go_enter Tryz.func81, Tryz.ntmps81
    go_wp2
    go_ret
    exact ⟨rfl, Below.refl _ _⟩
  · rw [hn]
    clear hn htr hte hfun
    have i1 : (1 : Int) ≤ (s.size : Int) := by omega
    have i2 : ¬ (s.size : Int) ≤ 20 := by omega
    go_enter Tryz.func81, Tryz.ntmps81
    go_wp2
    go_ret
    exact ⟨rfl, Below.refl _ _⟩
  · rw [hn]
    have ix := idx_str hb
    rw [show (((0 : Nat) : Int)) = 0 from rfl] at ix
    clear hn htr hte hfun hb
    have i1 : (1 : Int) ≤ (s.size : Int) := by omega
    have i2 : (s.size : Int) ≤ 20 := by omega
    have i3 : ¬ (97 : Int) ≤ (b.toNat : Int) := by omega
    go_enter Tryz.func81, Tryz.ntmps81
    go_wp2
    go_ret
    exact ⟨rfl, Below.refl _ _⟩
  · rw [hn]
    have ix := idx_str hb
    rw [show (((0 : Nat) : Int)) = 0 from rfl] at ix
    clear hn htr hte hfun hb
    have i1 : (1 : Int) ≤ (s.size : Int) := by omega
    have i2 : (s.size : Int) ≤ 20 := by omega
    have i3 : (97 : Int) ≤ (b.toNat : Int) := by omega
    have i4 : ¬ (b.toNat : Int) ≤ 122 := by omega
    go_enter Tryz.func81, Tryz.ntmps81
    go_wp2
    go_ret
    exact ⟨rfl, Below.refl _ _⟩
  · rw [hn, ← hte]
    have ix := idx_str hb
    rw [show (((0 : Nat) : Int)) = 0 from rfl] at ix
    have hce : (⟨(Lib.trimS s.data.toList nameSet).toArray⟩ : ByteArray).toList.isEmpty = (Lib.trimS s.data.toList nameSet).isEmpty := by rw [Lib.toList_data]
    rw [← hce]
    clear hn hte hfun hb hce
    have HTR := hide htr
    clear htr
    change Hid (∀ w, Calls Tryz.prog 67 #[.string s, .string ⟨nameSet.toArray⟩] w fun e w' => e = .returned (.string ⟨(Lib.trimS s.data.toList nameSet).toArray⟩) ∧ Below w.heap.size w w') at HTR
    generalize (⟨(Lib.trimS s.data.toList nameSet).toArray⟩ : ByteArray) = T at *
    have i1 : (1 : Int) ≤ (s.size : Int) := by omega
    have i2 : (s.size : Int) ≤ 20 := by omega
    have i3 : (97 : Int) ≤ (b.toNat : Int) := by omega
    have i4 : (b.toNat : Int) ≤ 122 := by omega
    go_enter Tryz.func81, Tryz.ntmps81
    go_wp2_with (go_at_call 67; refine (HTR.out _).mono ?_; rintro e w' ⟨rfl, hb⟩; have HB := hide hb; clear hb)
    go_ret
    exact ⟨by simp, HB.out⟩

end Go.Proofs.YtdncmjlakmkfiaaGreatDoor
/-
  PLAIN AND WALKS: what is wrong with a value by itself: its form, its numbers, its text.
-/
namespace Go.Proofs.YtdncmjlakmkfiaaGreatDoor
open Go.RowKit Go.Lib

def sqAny (s : ByteArray) : Bool := Lib.containsAny s.data.toList [91, 93, 124]

def blankEnd (s : ByteArray) : Bool := decide (s.data.toList[0]? = some 32) || decide (s.data.toList[s.size - 1]? = some 32)

def formB (k i t : Int) (m n : Nat) : Bool :=
  (decide (k = 1 ∨ k = 2 ∨ k = 4 ∨ k = 5) || decide (i = 0)) && ((decide (k = 5) || decide (t = 0)) && ((decide (k = 3 ∨ k = 6) || decide (m = 0)) && (decide (k = 7) || decide (n = 0))))

def V.formOk (v : V) : Bool := formB v.k v.i v.t v.s.size v.l.length

def V.numErr (v : V) : Int :=
  if v.k = 1 then (if v.i < 0 ∨ 1 < v.i then 2 else 0) else
  if v.k = 2 then (if v.i < -1000000000 ∨ 1000000000 < v.i then 2 else 0) else
  if v.k = 4 then (if v.i < 0 ∨ 100000 < v.i then 2 else 0) else
  if v.k = 5 then (if (v.i < 0 ∨ 100000 < v.i) ∨ (v.t < 0 ∨ 100000 < v.t) then 2 else if v.t < v.i then 5 else 0) else 0

def V.textErr (v : V) : Int :=
  if 2000 < v.s.size ∨ (v.k = 6 ∧ 100 < v.s.size) then 4 else if ctl v.s = true then 9 else
  if v.k = 6 ∧ (v.s.size = 0 ∨ blankEnd v.s = true ∨ sqAny v.s = true) then 1 else 0

def V.selfErr (v : V) : Int :=
  if v.k < 0 ∨ 7 < v.k then 10 else if v.formOk = false then 1 else if v.numErr ≠ 0 then v.numErr else if v.textErr ≠ 0 then v.textErr else if 20 < v.l.length then 4 else 0

theorem kinds {k : Int} (h : 0 ≤ k) (h7 : k ≤ 7) : k = 0 ∨ k = 1 ∨ k = 2 ∨ k = 3 ∨ k = 4 ∨ k = 5 ∨ k = 6 ∨ k = 7 := by omega

set_option maxHeartbeats 3200000 in
set_option maxRecDepth 100000 in
theorem usesForm_any (v : V) (A : Option Addr) (c : Nat) (w : World) (h0 : 0 ≤ v.k) (h7 : v.k ≤ 7) (hl : v.l.length ≤ maxLen) :
    Calls Tryz.prog 54 #[v.arg A c] w fun e w' => e = .returned (.bool v.formOk) ∧ Below w.heap.size w w' := by
  have hemp := toList_empty v.s
  unfold V.formOk
  obtain ⟨k, i, t, s, l⟩ := v
  simp only [V.arg, V.k, V.i, V.t, V.s, V.l] at *
  unfold maxLen at hl
  generalize l.length = n at *
  have hk := kinds h0 h7
  clear h0 h7
  obtain ⟨B, m, hB, hm⟩ : ∃ (B : Bool) (m : Nat), s.toList.isEmpty = B ∧ s.size = m ∧ ((B = true ∧ m = 0) ∨ (B = false ∧ 0 < m)) := ⟨_, _, rfl, rfl, by rw [hemp]; rcases Nat.eq_zero_or_pos s.size with h | h; exact .inl ⟨decide_eq_true h, h⟩; exact .inr ⟨decide_eq_false (by omega), h⟩⟩
  obtain ⟨hm1, hm⟩ := hm
  rw [hm1]
  clear hm1 hemp
  rcases hk with rfl | rfl | rfl | rfl | rfl | rfl | rfl | rfl
  · go_enter Tryz.func54, Tryz.ntmps54
    by_cases hi : i = 0
    case neg =>
      have hi2 : (i == 0) = false := beq_eq_false_iff_ne.2 hi
      go_wp2
      go_ret
      exact ⟨by first | rfl | (simp [formB, *] <;> omega), (by repeat (first | exact Below.refl _ _ | refine bl_plus ?_ | refine bl_alloc ?_ _ | refine bl_drew ?_))⟩
    subst hi
    by_cases ht : t = 0
    case neg =>
      have ht2 : (t == 0) = false := beq_eq_false_iff_ne.2 ht
      go_wp2
      go_ret
      exact ⟨by first | rfl | (simp [formB, *] <;> omega), (by repeat (first | exact Below.refl _ _ | refine bl_plus ?_ | refine bl_alloc ?_ _ | refine bl_drew ?_))⟩
    subst ht
    rcases hm with ⟨rfl, rfl⟩ | ⟨rfl, hm⟩
    case inr =>
      go_wp2
      go_ret
      exact ⟨by first | rfl | (simp [formB, *] <;> omega), (by repeat (first | exact Below.refl _ _ | refine bl_plus ?_ | refine bl_alloc ?_ _ | refine bl_drew ?_))⟩
    rcases Nat.eq_zero_or_pos n with hn | hn
    case inr =>
      have hn2 : ((n : Int) == 0) = false := beq_eq_false_iff_ne.2 (by omega)
      go_wp2
      go_ret
      exact ⟨by first | rfl | (simp [formB, *] <;> omega), (by repeat (first | exact Below.refl _ _ | refine bl_plus ?_ | refine bl_alloc ?_ _ | refine bl_drew ?_))⟩
    subst hn
    go_wp2
    go_ret
    exact ⟨by first | rfl | (simp [formB, *] <;> omega), (by repeat (first | exact Below.refl _ _ | refine bl_plus ?_ | refine bl_alloc ?_ _ | refine bl_drew ?_))⟩
  · go_enter Tryz.func54, Tryz.ntmps54
    by_cases ht : t = 0
    case neg =>
      have ht2 : (t == 0) = false := beq_eq_false_iff_ne.2 ht
      go_wp2
      go_ret
      exact ⟨by first | rfl | (simp [formB, *] <;> omega), (by repeat (first | exact Below.refl _ _ | refine bl_plus ?_ | refine bl_alloc ?_ _ | refine bl_drew ?_))⟩
    subst ht
    rcases hm with ⟨rfl, rfl⟩ | ⟨rfl, hm⟩
    case inr =>
      go_wp2
      go_ret
      exact ⟨by first | rfl | (simp [formB, *] <;> omega), (by repeat (first | exact Below.refl _ _ | refine bl_plus ?_ | refine bl_alloc ?_ _ | refine bl_drew ?_))⟩
    rcases Nat.eq_zero_or_pos n with hn | hn
    case inr =>
      have hn2 : ((n : Int) == 0) = false := beq_eq_false_iff_ne.2 (by omega)
      go_wp2
      go_ret
      exact ⟨by first | rfl | (simp [formB, *] <;> omega), (by repeat (first | exact Below.refl _ _ | refine bl_plus ?_ | refine bl_alloc ?_ _ | refine bl_drew ?_))⟩
    subst hn
    go_wp2
    go_ret
    exact ⟨by first | rfl | (simp [formB, *] <;> omega), (by repeat (first | exact Below.refl _ _ | refine bl_plus ?_ | refine bl_alloc ?_ _ | refine bl_drew ?_))⟩
  · go_enter Tryz.func54, Tryz.ntmps54
    by_cases ht : t = 0
    case neg =>
      have ht2 : (t == 0) = false := beq_eq_false_iff_ne.2 ht
      go_wp2
      go_ret
      exact ⟨by first | rfl | (simp [formB, *] <;> omega), (by repeat (first | exact Below.refl _ _ | refine bl_plus ?_ | refine bl_alloc ?_ _ | refine bl_drew ?_))⟩
    subst ht
    rcases hm with ⟨rfl, rfl⟩ | ⟨rfl, hm⟩
    case inr =>
      go_wp2
      go_ret
      exact ⟨by first | rfl | (simp [formB, *] <;> omega), (by repeat (first | exact Below.refl _ _ | refine bl_plus ?_ | refine bl_alloc ?_ _ | refine bl_drew ?_))⟩
    rcases Nat.eq_zero_or_pos n with hn | hn
    case inr =>
      have hn2 : ((n : Int) == 0) = false := beq_eq_false_iff_ne.2 (by omega)
      go_wp2
      go_ret
      exact ⟨by first | rfl | (simp [formB, *] <;> omega), (by repeat (first | exact Below.refl _ _ | refine bl_plus ?_ | refine bl_alloc ?_ _ | refine bl_drew ?_))⟩
    subst hn
    go_wp2
    go_ret
    exact ⟨by first | rfl | (simp [formB, *] <;> omega), (by repeat (first | exact Below.refl _ _ | refine bl_plus ?_ | refine bl_alloc ?_ _ | refine bl_drew ?_))⟩
  · go_enter Tryz.func54, Tryz.ntmps54
    by_cases hi : i = 0
    case neg =>
      have hi2 : (i == 0) = false := beq_eq_false_iff_ne.2 hi
      go_wp2
      go_ret
      exact ⟨by first | rfl | (simp [formB, *] <;> omega), (by repeat (first | exact Below.refl _ _ | refine bl_plus ?_ | refine bl_alloc ?_ _ | refine bl_drew ?_))⟩
    subst hi
    by_cases ht : t = 0
    case neg =>
      have ht2 : (t == 0) = false := beq_eq_false_iff_ne.2 ht
      go_wp2
      go_ret
      exact ⟨by first | rfl | (simp [formB, *] <;> omega), (by repeat (first | exact Below.refl _ _ | refine bl_plus ?_ | refine bl_alloc ?_ _ | refine bl_drew ?_))⟩
    subst ht
    rcases Nat.eq_zero_or_pos n with hn | hn
    case inr =>
      have hn2 : ((n : Int) == 0) = false := beq_eq_false_iff_ne.2 (by omega)
      go_wp2
      go_ret
      exact ⟨by first | rfl | (simp [formB, *] <;> omega), (by repeat (first | exact Below.refl _ _ | refine bl_plus ?_ | refine bl_alloc ?_ _ | refine bl_drew ?_))⟩
    subst hn
    go_wp2
    go_ret
    exact ⟨by first | rfl | (simp [formB, *] <;> omega), (by repeat (first | exact Below.refl _ _ | refine bl_plus ?_ | refine bl_alloc ?_ _ | refine bl_drew ?_))⟩
  · go_enter Tryz.func54, Tryz.ntmps54
    by_cases ht : t = 0
    case neg =>
      have ht2 : (t == 0) = false := beq_eq_false_iff_ne.2 ht
      go_wp2
      go_ret
      exact ⟨by first | rfl | (simp [formB, *] <;> omega), (by repeat (first | exact Below.refl _ _ | refine bl_plus ?_ | refine bl_alloc ?_ _ | refine bl_drew ?_))⟩
    subst ht
    rcases hm with ⟨rfl, rfl⟩ | ⟨rfl, hm⟩
    case inr =>
      go_wp2
      go_ret
      exact ⟨by first | rfl | (simp [formB, *] <;> omega), (by repeat (first | exact Below.refl _ _ | refine bl_plus ?_ | refine bl_alloc ?_ _ | refine bl_drew ?_))⟩
    rcases Nat.eq_zero_or_pos n with hn | hn
    case inr =>
      have hn2 : ((n : Int) == 0) = false := beq_eq_false_iff_ne.2 (by omega)
      go_wp2
      go_ret
      exact ⟨by first | rfl | (simp [formB, *] <;> omega), (by repeat (first | exact Below.refl _ _ | refine bl_plus ?_ | refine bl_alloc ?_ _ | refine bl_drew ?_))⟩
    subst hn
    go_wp2
    go_ret
    exact ⟨by first | rfl | (simp [formB, *] <;> omega), (by repeat (first | exact Below.refl _ _ | refine bl_plus ?_ | refine bl_alloc ?_ _ | refine bl_drew ?_))⟩
  · go_enter Tryz.func54, Tryz.ntmps54
    rcases hm with ⟨rfl, rfl⟩ | ⟨rfl, hm⟩
    case inr =>
      go_wp2
      go_ret
      exact ⟨by first | rfl | (simp [formB, *] <;> omega), (by repeat (first | exact Below.refl _ _ | refine bl_plus ?_ | refine bl_alloc ?_ _ | refine bl_drew ?_))⟩
    rcases Nat.eq_zero_or_pos n with hn | hn
    case inr =>
      have hn2 : ((n : Int) == 0) = false := beq_eq_false_iff_ne.2 (by omega)
      go_wp2
      go_ret
      exact ⟨by first | rfl | (simp [formB, *] <;> omega), (by repeat (first | exact Below.refl _ _ | refine bl_plus ?_ | refine bl_alloc ?_ _ | refine bl_drew ?_))⟩
    subst hn
    go_wp2
    go_ret
    exact ⟨by first | rfl | (simp [formB, *] <;> omega), (by repeat (first | exact Below.refl _ _ | refine bl_plus ?_ | refine bl_alloc ?_ _ | refine bl_drew ?_))⟩
  · go_enter Tryz.func54, Tryz.ntmps54
    by_cases hi : i = 0
    case neg =>
      have hi2 : (i == 0) = false := beq_eq_false_iff_ne.2 hi
      go_wp2
      go_ret
      exact ⟨by first | rfl | (simp [formB, *] <;> omega), (by repeat (first | exact Below.refl _ _ | refine bl_plus ?_ | refine bl_alloc ?_ _ | refine bl_drew ?_))⟩
    subst hi
    by_cases ht : t = 0
    case neg =>
      have ht2 : (t == 0) = false := beq_eq_false_iff_ne.2 ht
      go_wp2
      go_ret
      exact ⟨by first | rfl | (simp [formB, *] <;> omega), (by repeat (first | exact Below.refl _ _ | refine bl_plus ?_ | refine bl_alloc ?_ _ | refine bl_drew ?_))⟩
    subst ht
    rcases Nat.eq_zero_or_pos n with hn | hn
    case inr =>
      have hn2 : ((n : Int) == 0) = false := beq_eq_false_iff_ne.2 (by omega)
      go_wp2
      go_ret
      exact ⟨by first | rfl | (simp [formB, *] <;> omega), (by repeat (first | exact Below.refl _ _ | refine bl_plus ?_ | refine bl_alloc ?_ _ | refine bl_drew ?_))⟩
    subst hn
    go_wp2
    go_ret
    exact ⟨by first | rfl | (simp [formB, *] <;> omega), (by repeat (first | exact Below.refl _ _ | refine bl_plus ?_ | refine bl_alloc ?_ _ | refine bl_drew ?_))⟩
  · go_enter Tryz.func54, Tryz.ntmps54
    by_cases hi : i = 0
    case neg =>
      have hi2 : (i == 0) = false := beq_eq_false_iff_ne.2 hi
      go_wp2
      go_ret
      exact ⟨by first | rfl | (simp [formB, *] <;> omega), (by repeat (first | exact Below.refl _ _ | refine bl_plus ?_ | refine bl_alloc ?_ _ | refine bl_drew ?_))⟩
    subst hi
    by_cases ht : t = 0
    case neg =>
      have ht2 : (t == 0) = false := beq_eq_false_iff_ne.2 ht
      go_wp2
      go_ret
      exact ⟨by first | rfl | (simp [formB, *] <;> omega), (by repeat (first | exact Below.refl _ _ | refine bl_plus ?_ | refine bl_alloc ?_ _ | refine bl_drew ?_))⟩
    subst ht
    rcases hm with ⟨rfl, rfl⟩ | ⟨rfl, hm⟩
    case inr =>
      go_wp2
      go_ret
      exact ⟨by first | rfl | (simp [formB, *] <;> omega), (by repeat (first | exact Below.refl _ _ | refine bl_plus ?_ | refine bl_alloc ?_ _ | refine bl_drew ?_))⟩
    go_wp2
    go_ret
    exact ⟨by first | rfl | (simp [formB, *] <;> omega), (by repeat (first | exact Below.refl _ _ | refine bl_plus ?_ | refine bl_alloc ?_ _ | refine bl_drew ?_))⟩

end Go.Proofs.YtdncmjlakmkfiaaGreatDoor
