/-
  WALKS: a state that is read, in the program and in the reference.
-/
import Derived.Test.YtplmcpecffjheaaDoorRda
import Derived.Test.YtplmcpecffjheaaDoorStd
import Derived.Test.YtplmcpecffjheaaDoorRowI
import Derived.Lib.SplitLaws
namespace Go.Proofs.YtplmcpecffjheaaDoor
open Go.RowKit

/-- The words of a text, parted at blanks. -/
def wordsOf (s : ByteArray) : List ByteArray := Lib.splitB ⟨#[32]⟩ 0 (Lib.countB s ⟨#[32]⟩) s
theorem wordsOf_len (s : ByteArray) : (wordsOf s).length = Lib.countB s ⟨#[32]⟩ + 1 := Lib.splitB_all ⟨#[32]⟩ (by decide) 0 _ s rfl
def wd (s : ByteArray) (j : Nat) : ByteArray := (wordsOf s).getD j ⟨#[]⟩
/-- What the word says, where it is a number. -/
def nv (s : ByteArray) (j : Nat) : Int := (num (wd s j).data.toList).getD 0
def allNum (s : ByteArray) : Bool := (List.range 9).all fun j => (num (wd s j).data.toList).isSome
def stOf (s : ByteArray) : St := ⟨nv s 0, nv s 1, nv s 2, nv s 3, nv s 4, nv s 5, nv s 6, nv s 7, nv s 8⟩
def stZero : St := ⟨0, 0, 0, 0, 0, 0, 0, 0, 0⟩
def readS (s : ByteArray) : St × Int := if 2000 < s.size then (stZero, 4) else if (wordsOf s).length ≠ 9 then (stZero, 8) else if allNum s then (if (stOf s).err = 0 then (stOf s, 0) else (stZero, (stOf s).err)) else (stZero, 8)
def ReadOut (s : ByteArray) (w : World) (e : Ending) (w' : World) : Prop := e = .returned (.tuple #[(readS s).1.val, .int .i64 (readS s).2]) ∧ Below w.heap.size w w'

theorem allNum_at {s : ByteArray} (h : ∀ j, j < 9 → (num (wd s j).data.toList).isSome = true) : allNum s = true := List.all_eq_true.2 fun j hj => h j (List.mem_range.1 hj)
theorem allNum_not {s : ByteArray} {j : Nat} (hj : j < 9) (h : num (wd s j).data.toList = none) : allNum s = false := by
  cases hc : allNum s with
  | false => rfl
  | true =>
    have := List.all_eq_true.1 hc j (List.mem_range.2 hj)
    rw [h] at this
    cases this

/-- The numbers, the first k of which are read. -/
def fill (f : Nat → Int) (k : Nat) : List Int := (List.range 9).map fun j => if j < k then f j else 0
theorem fill_zero (f : Nat → Int) : ints (fill f 0) = #[.int .i64 0, .int .i64 0, .int .i64 0, .int .i64 0, .int .i64 0, .int .i64 0, .int .i64 0, .int .i64 0, .int .i64 0] := rfl
theorem fill_nine (f : Nat → Int) : ints (fill f 9) = #[.int .i64 (f 0), .int .i64 (f 1), .int .i64 (f 2), .int .i64 (f 3), .int .i64 (f 4), .int .i64 (f 5), .int .i64 (f 6), .int .i64 (f 7), .int .i64 (f 8)] := rfl
theorem fill_len (f : Nat → Int) (k : Nat) : (fill f k).length = 9 := by simp [fill]
theorem fill_set (f : Nat → Int) (k : Nat) : (fill f k).set k (f k) = fill f (k + 1) := by
  apply List.ext_getElem?
  intro i
  rw [List.getElem?_set]
  unfold fill
  by_cases h : k = i
  · subst h
    by_cases hi : k < 9 <;> simp [hi]
  · rw [if_neg h]
    simp only [List.getElem?_map]
    by_cases hi : i < 9
    · simp only [List.getElem?_range hi, Option.map_some, Option.some.injEq]
      by_cases h2 : i < k
      · rw [if_pos h2, if_pos (by omega)]
      · rw [if_neg h2, if_neg (by omega)]
    · simp [hi]

theorem NumOut.no {l : List UInt8} {w : World} {e : Ending} {w' : World} (h : NumOut l w e w') (hn : num l = none) : ∃ k, e = .returned (.tuple #[.int .i64 k, .bool false]) ∧ Below w.heap.size w w' := by
  obtain ⟨⟨k, he, -⟩, hb⟩ := h
  rw [hn] at he
  exact ⟨k, he, hb⟩
theorem NumOut.yes {l : List UInt8} {w : World} {e : Ending} {w' : World} {v : Int} (h : NumOut l w e w') (hn : num l = some v) : e = .returned (.tuple #[.int .i64 v, .bool true]) ∧ Below w.heap.size w w' := by
  obtain ⟨⟨k, he, hk⟩, hb⟩ := h
  rw [hn] at he
  rw [hk v hn] at he
  exact ⟨he, hb⟩

set_option maxHeartbeats 3200000 in
set_option maxRecDepth 100000 in
theorem readState_any (s : ByteArray) (w : World) (ht : PowTab w) (hm : MaxTold w)
    (hck : ∀ x w, Calls Tryd.prog 9 #[St.val x] w fun e w' => e = .returned (.int .i64 x.err) ∧ Below w.heap.size w w') :
    Calls Tryd.prog 11 #[.string s] w (ReadOut s w) := by
  have hz : readS s = readS s := rfl
  by_cases h1 : 2000 < s.size
  · have hr : readS s = (stZero, 4) := if_pos h1
    clear hck
    go_enter Tryd.func11, Tryd.ntmps11
    go_wp2
    go_returns
    unfold ReadOut
    rw [hr]
    exact ⟨rfl, by repeat (first | exact Below.refl _ _ | refine bl_plus ?_ | refine bl_alloc ?_ _ | refine bl_drew ?_)⟩
  · have hsp := fun w hm => Tryd.split_any s ⟨#[32]⟩ w hm (by omega) (by decide)
    have hwl := wordsOf_len s
    rw [← hwl] at hsp
    change ∀ w, MaxTold w → Calls Tryd.prog 20 #[.string s, .string ⟨#[32]⟩] w (fun e w' => e = .returned (.slice (some ⟨w.heap.size, 0, none⟩) (wordsOf s).length (wordsOf s).length) ∧ w' = w.alloc (.cells ((wordsOf s).map Value.string).toArray 9)) at hsp
    have HSP := hide hsp
    have HM := hide hm
    have HT := hide ht
    clear hsp hm ht hwl
    by_cases h2 : (wordsOf s).length = 9
    · have hws : ∀ k, k < 9 → ((wordsOf s).map Value.string).toArray[k]? = some (.string (wd s k)) := fun k hk => by
        have : k < (wordsOf s).length := by omega
        simp [wd, this]
      have HRB := hide (fun j (hj : j < 9) (hn : num (wd s j).data.toList = none) => show readS s = (stZero, 8) by unfold readS; rw [if_neg h1, if_neg (by simp [h2]), allNum_not hj hn]; rfl)
      have HRG := hide (fun (hall : allNum s = true) => show readS s = if (stOf s).err = 0 then (stOf s, 0) else (stZero, (stOf s).err) by unfold readS; rw [if_neg h1, if_neg (by simp [h2]), if_pos hall])
      have HWS := hide hws
      have HN9 := hide (show (((wordsOf s).map Value.string).toArray).size = 9 by simp [h2])
      clear hws
      rw [h2] at HSP
      generalize ((wordsOf s).map Value.string).toArray = ws at *
      go_enter Tryd.func11, Tryd.ntmps11
      go_wp2_with (go_at_call 20; refine (HSP.out _ (maxTold_below HM.out (by repeat (first | exact Below.refl _ _ | refine bl_plus ?_ | refine bl_alloc ?_ _ | refine bl_drew ?_)))).mono ?_; rintro e w' ⟨rfl, rfl⟩)
      go_loopw [24] (fun i wr => ∃ (k : Nat) (os : Array Obj) (n : Nat), k ≤ 9 ∧ i = .int .i64 k ∧ Hid (∀ j, j < k → (num (wd s j).data.toList).isSome = true) ∧ wr = plus (((w.alloc (.cells #[.int .i64 0, .int .i64 0, .int .i64 0, .int .i64 0, .int .i64 0, .int .i64 0, .int .i64 0, .int .i64 0, .int .i64 0] 23)).alloc (.cells ws 9)).alloc (.cells (ints (fill (nv s) k)) 45)) os n) (fun i _ => 9 - (intOf i).toNat)
      case atStart => exact ⟨0, #[], _, by omega, rfl, hide (fun j hj => by omega), by rw [fill_zero]; exact plus_nil.symm⟩
      case round =>
        obtain ⟨k, os, n, hk, rfl, HK, rfl⟩ := hrel
        by_cases hlt9 : k < 9
        · have hwk := HWS.out k hlt9
          have i1 : (k : Int) < 9 := by omega
          have HC := hide (fun w ht => plainNumber_any (wd s k) w ht)
          have HNV := hide (show nv s k = (num (wd s k).data.toList).getD 0 from rfl)
          have HRK := hide (HRB.out k hlt9)
          have hf9 : (ints (fill (nv s) k)).size = 9 := by rw [ints_size, fill_len]
          rcases hnum : num (wd s k).data.toList with _ | v
          · have HNM := hide hnum
            clear hnum
            go_wp2_with (go_at_call 21; refine (HC.out _ (powTab_below HT.out (by repeat (first | exact Below.refl _ _ | refine bl_plus ?_ | refine bl_alloc ?_ _ | refine bl_drew ?_)))).mono ?_; intro e w' hno; obtain ⟨kv, rfl, hbl⟩ := hno.no HNM.out; obtain ⟨os2, n2, rfl⟩ := below_plus hbl; clear hbl hno)
            go_returns
            unfold ReadOut
            rw [HRK.out HNM.out]
            exact ⟨rfl, by repeat (first | exact Below.refl _ _ | refine bl_plus ?_ | refine bl_alloc ?_ _ | refine bl_drew ?_)⟩
          · have HNM := hide hnum
            clear hnum
            go_wp2_with (go_at_call 21; refine (HC.out _ (powTab_below HT.out (by repeat (first | exact Below.refl _ _ | refine bl_plus ?_ | refine bl_alloc ?_ _ | refine bl_drew ?_)))).mono ?_; intro e w' hno; obtain ⟨rfl, hbl⟩ := hno.yes HNM.out; obtain ⟨os2, n2, rfl⟩ := below_plus hbl; clear hbl hno)
            go_roundw
            case rel =>
              refine ⟨k + 1, os ++ os2, n2, hlt9, by go_num, hide (fun j hj => ?_), ?_⟩
              · rcases Nat.lt_or_ge j k with h | h
                · exact HK.out j h
                · rw [show j = k by omega, HNM.out]; rfl
              · have hv : v = nv s k := by rw [HNV.out, HNM.out]; rfl
                rw [hv, ints_set, fill_set, plus_plus]
            case measure => simp [intOf]; omega
        · have hk9 : k = 9 := by omega
          subst hk9
          have hrg := HRG.out (allNum_at HK.out)
          have hst : (stOf s).val = .agg (ints (fill (nv s) 9)) := by rw [fill_nine]; rfl
          have hck := hck (stOf s)
          rw [hst, fill_nine] at hck
          rw [fill_nine]
          have hst2 := hst
          rw [fill_nine] at hst2
          generalize (stOf s).err = r at *
          have hrg2 : (r = 0 ∧ readS s = (stOf s, 0)) ∨ (r ≠ 0 ∧ readS s = (stZero, r)) := by
            by_cases hr : r = 0
            · exact .inl ⟨hr, by rw [hrg, if_pos hr]⟩
            · exact .inr ⟨hr, by rw [hrg, if_neg hr]⟩
          have HCK := hide hck
          have HST := hide hst2
          clear hrg hck hst hst2
          generalize nv s 0 = c0 at *
          generalize nv s 1 = c1 at *
          generalize nv s 2 = c2 at *
          generalize nv s 3 = c3 at *
          generalize nv s 4 = c4 at *
          generalize nv s 5 = c5 at *
          generalize nv s 6 = c6 at *
          generalize nv s 7 = c7 at *
          generalize nv s 8 = c8 at *
          rcases hrg2 with ⟨rfl, hr⟩ | ⟨hr0, hr⟩
          · have HR := hide hr
            clear hr
            go_wp2_with (go_at_call 9; refine (HCK.out _).mono ?_; rintro e w' ⟨rfl, hbl⟩; obtain ⟨os2, n2, rfl⟩ := below_plus hbl; clear hbl)
            go_returns
            unfold ReadOut
            rw [HR.out, HST.out]
            exact ⟨rfl, by repeat (first | exact Below.refl _ _ | refine bl_plus ?_ | refine bl_alloc ?_ _ | refine bl_drew ?_)⟩
          · have HR := hide hr
            clear hr
            have hne : (r != 0) = true := bne_iff_ne.2 hr0
            go_wp2_with (go_at_call 9; refine (HCK.out _).mono ?_; rintro e w' ⟨rfl, hbl⟩; obtain ⟨os2, n2, rfl⟩ := below_plus hbl; clear hbl)
            go_returns
            unfold ReadOut
            rw [HR.out]
            exact ⟨rfl, by repeat (first | exact Below.refl _ _ | refine bl_plus ?_ | refine bl_alloc ?_ _ | refine bl_drew ?_)⟩
    · have HR := hide (show readS s = (stZero, 8) by unfold readS; rw [if_neg h1, if_pos h2])
      have hn9 : ((wordsOf s).length : Int) ≠ 9 := by omega
      have hn9b : (((wordsOf s).length : Int) != 9) = true := bne_iff_ne.2 hn9
      generalize ((wordsOf s).map Value.string).toArray = ws at *
      generalize (wordsOf s).length = len at *
      clear hck
      go_enter Tryd.func11, Tryd.ntmps11
      go_wp2_with (go_at_call 20; refine (HSP.out _ (maxTold_below HM.out (by repeat (first | exact Below.refl _ _ | refine bl_plus ?_ | refine bl_alloc ?_ _ | refine bl_drew ?_)))).mono ?_; rintro e w' ⟨rfl, rfl⟩)
      go_returns
      unfold ReadOut
      rw [HR.out]
      exact ⟨rfl, by repeat (first | exact Below.refl _ _ | refine bl_plus ?_ | refine bl_alloc ?_ _ | refine bl_drew ?_)⟩

end Go.Proofs.YtplmcpecffjheaaDoor
