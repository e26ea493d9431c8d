/-
  WALKS: checkOn, and the reference's tests of a day.
-/
import Derived.Test.YtokghdcfbbogdaaWalkL
import Derived.Test.YtokghdcfbbogdaaClone
import Derived.Test.YtokghdcfbbogdaaWalkK
import Derived.Test.YtokghdcfbbogdaaInts
namespace Go.Proofs.Ytokghdcfbbogdaa
open Go.RowKit

/-- What checkOn answers. -/
def onErr (xs : List St) (d : Int) : Int := if statesErr xs = 0 then (if d < 0 ∨ 100000 < d then 2 else 0) else statesErr xs

set_option maxHeartbeats 1600000 in
set_option maxRecDepth 100000 in
theorem checkOn_any (A : Option Addr) (c : Nat) (xs : List St) (d : Int) (w : World) (hA : StsAt w A xs) :
    Calls Try.prog 65 #[.slice A xs.length c, .int .i64 d] w fun e w' => e = .returned (.int .i64 (onErr xs d)) ∧ Below w.heap.size w w' := by
  have hck := checkStates_any A c xs w hA
  by_cases h : statesErr xs = 0
  · have hR : onErr xs d = if d < 0 ∨ 100000 < d then 2 else 0 := by unfold onErr; rw [if_pos h]
    rw [hR]
    rw [h] at hck
    clear hR h
    by_cases hd : d < 0 ∨ 100000 < d
    · rw [if_pos hd]
      have hcd := fun w => checkDay_no d w hd
      have H1 := hide hck
      have H2 := hide hcd
      clear hck hcd hd hA
      go_enter Try.func65, Try.ntmps65
      go_wp2_with (first | (go_at_call 48; refine H1.out.mono ?_; rintro e w' ⟨rfl, hb⟩; obtain ⟨os1, n1, rfl⟩ := below_plus hb; clear hb) | (go_at_call 64; refine (H2.out _).mono ?_; rintro e w' ⟨rfl, rfl⟩))
      go_ret
      exact ⟨rfl, by repeat (first | exact Below.refl _ _ | refine bl_plus ?_ | refine bl_alloc ?_ _ | refine bl_drew ?_)⟩
    · rw [if_neg hd]
      have hcd := fun w => checkDay_yes d w (by omega) (by omega)
      have H1 := hide hck
      have H2 := hide hcd
      clear hck hcd hd hA
      go_enter Try.func65, Try.ntmps65
      go_wp2_with (first | (go_at_call 48; refine H1.out.mono ?_; rintro e w' ⟨rfl, hb⟩; obtain ⟨os1, n1, rfl⟩ := below_plus hb; clear hb) | (go_at_call 64; refine (H2.out _).mono ?_; rintro e w' ⟨rfl, rfl⟩))
      go_ret
      exact ⟨rfl, by repeat (first | exact Below.refl _ _ | refine bl_plus ?_ | refine bl_alloc ?_ _ | refine bl_drew ?_)⟩
  · have hR : onErr xs d = statesErr xs := by unfold onErr; rw [if_neg h]
    rw [hR]
    clear hR
    generalize statesErr xs = r at hck h ⊢
    have hr : (r == 0) = false := by simp [h]
    have H1 := hide hck
    clear hck h hA
    go_enter Try.func65, Try.ntmps65
    go_wp2_with ((go_at_call 48; refine H1.out.mono ?_; rintro e w' ⟨rfl, hb⟩; obtain ⟨os1, n1, rfl⟩ := below_plus hb; clear hb))
    go_ret
    exact ⟨rfl, by repeat (first | exact Below.refl _ _ | refine bl_plus ?_ | refine bl_alloc ?_ _ | refine bl_drew ?_)⟩

end Go.Proofs.Ytokghdcfbbogdaa
/-
  PLAIN: the places of the states that a test picks out.
-/
namespace Go.Proofs.Ytokghdcfbbogdaa
open Go.RowKit

/-- The places below k of the states that pass. -/
def pick (p : St → Bool) (xs : List St) : Nat → List Int
  | 0 => []
  | k + 1 => match xs[k]? with
    | none => pick p xs k
    | some x => if p x = true then pick p xs k ++ [(k : Int)] else pick p xs k

theorem pick_yes {p : St → Bool} {xs : List St} {k : Nat} {x : St} (h : xs[k]? = some x) (hp : p x = true) : pick p xs (k + 1) = pick p xs k ++ [(k : Int)] := by simp [pick, h, hp]
theorem pick_no {p : St → Bool} {xs : List St} {k : Nat} {x : St} (h : xs[k]? = some x) (hp : p x = false) : pick p xs (k + 1) = pick p xs k := by simp [pick, h, hp]
theorem pick_le (p : St → Bool) (xs : List St) (k : Nat) : (pick p xs k).length ≤ k := by
  induction k with
  | zero => exact Nat.le_refl _
  | succ k ih =>
    unfold pick
    split
    · omega
    · split
      · simp; omega
      · omega

def leeches (xs : List St) (m : Int) : List Int × Int := if statesErr xs = 0 then (if m < 1 then ([], 2) else (pick (fun x => decide (m ≤ x.lp)) xs xs.length, 0)) else ([], statesErr xs)
end Go.Proofs.Ytokghdcfbbogdaa
/-
  PLAIN: how many states are due on each of some days, as a row of numbers that is counted up.
-/
namespace Go.Proofs.Ytokghdcfbbogdaa
open Go.RowKit

/-- One more at a place. -/
def bump (l : List Int) (i : Nat) : List Int := l.set i ((l[i]?).getD 0 + 1)
theorem bump_len (l : List Int) (i : Nat) : (bump l i).length = l.length := by simp [bump]

/-- The row behind the first k states; 'slot' says where a state is counted. -/
def tally (slot : St → Option Nat) (n : Nat) (xs : List St) : Nat → List Int
  | 0 => List.replicate n 0
  | k + 1 => match xs[k]? with
    | none => tally slot n xs k
    | some x => match slot x with
      | none => tally slot n xs k
      | some i => bump (tally slot n xs k) i
theorem tally_no {slot : St → Option Nat} {n : Nat} {xs : List St} {k : Nat} {x : St} (h : xs[k]? = some x) (hs : slot x = none) : tally slot n xs (k + 1) = tally slot n xs k := by simp [tally, h, hs]
theorem tally_yes {slot : St → Option Nat} {n : Nat} {xs : List St} {k i : Nat} {x : St} (h : xs[k]? = some x) (hs : slot x = some i) : tally slot n xs (k + 1) = bump (tally slot n xs k) i := by simp [tally, h, hs]
theorem tally_len (slot : St → Option Nat) (n : Nat) (xs : List St) (k : Nat) : (tally slot n xs k).length = n := by
  induction k with
  | zero => simp [tally]
  | succ k ih =>
    unfold tally
    split
    · exact ih
    · split
      · exact ih
      · rw [bump_len]; exact ih
theorem tally_bd (slot : St → Option Nat) (n : Nat) (xs : List St) (k : Nat) : ∀ i (h : i < (tally slot n xs k).length), 0 ≤ (tally slot n xs k)[i] ∧ (tally slot n xs k)[i] ≤ k := by
  induction k with
  | zero => intro i h; simp [tally]
  | succ k ih =>
    have step : ∀ i (h : i < (tally slot n xs k).length), 0 ≤ (tally slot n xs k)[i] ∧ (tally slot n xs k)[i] ≤ (k : Int) + 1 := fun i h => by have := ih i h; omega
    intro i h
    have goal : ∀ l : List Int, l = tally slot n xs (k + 1) → ∀ (h : i < l.length), 0 ≤ l[i] ∧ l[i] ≤ ((k + 1 : Nat) : Int) := by
      intro l hl h
      unfold tally at hl
      split at hl
      · subst hl; exact step i h
      · split at hl
        · subst hl; exact step i h
        · rename_i j _
          subst hl
          have hi : i < (tally slot n xs k).length := by rwa [bump_len] at h
          simp only [bump, List.getElem_set]
          split
          · rename_i hji
            subst hji
            rw [List.getElem?_eq_getElem hi]
            have := ih j hi
            simp only [Option.getD_some]
            omega
          · exact step i hi
    exact goal _ rfl h

/-- Where Loads counts a state. -/
def slotOf (from_ days : Int) (x : St) : Option Nat := if 0 ≤ x.du ∧ max x.du from_ - from_ < days then some (max x.du from_ - from_).toNat else none
def loads (xs : List St) (from_ days : Int) : List Int × Int :=
  if onErr xs from_ = 0 then (if days < 0 ∨ 1500 < days then ([], 2) else (tally (slotOf from_ days) days.toNat xs xs.length, 0)) else ([], onErr xs from_)

/-- The cells of a row of numbers. -/
def ints (l : List Int) : Array Value := (l.map (Value.int .i64)).toArray
theorem ints_size (l : List Int) : (ints l).size = l.length := by simp [ints]
theorem ints_get {l : List Int} {i : Nat} (h : i < l.length) : (ints l)[i]? = some (.int .i64 l[i]) := by simp [ints, h]
theorem ints_set (l : List Int) (i : Nat) (y : Int) : (ints l).setIfInBounds i (.int .i64 y) = ints (l.set i y) := by simp [ints, List.map_set]
theorem ints_zero (n : Nat) : madeCells (Value.int .i64 0).cells (n * 1) = ints (List.replicate n 0) := by
  unfold ints
  rw [List.map_replicate, Nat.mul_one]
  apply Array.ext_getElem?
  intro i
  by_cases h : i < n
  · simp [madeCells, Value.cells, h, Nat.mod_one]
  · simp [madeCells, h]
theorem intsAt_new {w : World} {t : TypeId} {l : List Int} {g : Nat} (hB : Blk w g t (ints l)) : IntsAt w (some ⟨g, 0, none⟩) l := fun _ => by
  refine ⟨g, 0, rfl, hB.lt, fun j hj => ?_⟩
  rw [Nat.zero_add, hB.cell, ints_get hj]

/-- A listed state of a right list is right itself. -/
theorem err_of_statesFrom : ∀ (xs : List St) (p : Option St), statesFrom p xs = 0 → ∀ k (h : k < xs.length), xs[k].err = 0 := by
  intro xs
  induction xs with
  | nil => intro p _ k h; simp at h
  | cons x xs ih =>
    intro p h k hk
    by_cases hx : x.err = 0
    · cases k with
      | zero => exact hx
      | succ k =>
        simp only [statesFrom, if_pos hx] at h
        split at h
        · omega
        · exact ih (some x) h k (by simpa using hk)
    · rw [statesFrom_bad hx] at h; exact absurd h hx
theorem err_of_statesErr {xs : List St} (h : statesErr xs = 0) (k : Nat) (hk : k < xs.length) : xs[k].err = 0 := by
  have hl := len_of_statesErr h
  unfold statesErr at h
  rw [if_neg (by omega)] at h
  exact err_of_statesFrom xs none h k hk
theorem ill_of_err {x : St} (h : x.err = 0) : x.ill = false := by
  unfold St.err at h
  rw [St.far_of_err h] at h
  by_cases hi : x.ill = true
  · rw [hi] at h; simp at h
  · simpa using hi
/-- A right state was asked just if it is due at all. -/
theorem asked_of_err {x : St} (h : x.err = 0) : (0 < x.ti ↔ 0 ≤ x.du) ∧ (x.ti = 0 ↔ x.du < 0) := by
  have hg := St.good_of_err h
  have hi := ill_of_err h
  obtain ⟨bl, no, st, ea, du, la, ti, lp, bu⟩ := x
  obtain ⟨_, _, _, _, h1, h2, _, h3, _⟩ := hg
  simp only [St.ill, decide_eq_false_iff_not] at hi h1 h2 h3 ⊢
  omega

theorem onErr_ok {xs : List St} {d : Int} (h : statesErr xs = 0) (hd : 0 ≤ d ∧ d ≤ 100000) : onErr xs d = 0 := by unfold onErr; rw [if_pos h, if_neg (by omega)]
theorem onErr_zero {xs : List St} {d : Int} (h : onErr xs d = 0) : statesErr xs = 0 ∧ 0 ≤ d ∧ d ≤ 100000 := by
  unfold onErr at h
  split at h
  · rename_i h0
    split at h
    · omega
    · exact ⟨h0, by omega, by omega⟩
  · rename_i h0; exact absurd h h0

end Go.Proofs.Ytokghdcfbbogdaa
