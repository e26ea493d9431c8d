/-
  WALKS: the order of cards by block and number.
-/
import Derived.Test.YtokghdcfbbogdaaInts
import Derived.Test.YtokghdcfbbogdaaWalkA
import Derived.Deep.RegionHeld3
import Derived.Test.YtokghdcfbbogdaaPlain
namespace Go.Proofs.Ytokghdcfbbogdaa
open Go.RowKit

/-- The order of two names. -/
def nameCmp (a b c d : Int) : Int := or2 (cmp3 a c) (cmp3 b d)

set_option maxHeartbeats 1600000 in
set_option maxRecDepth 100000 in
theorem nameCompare_any (a b c d : Int) (w : World) :
    Calls Try.prog 80 #[.agg #[.int .i64 a, .int .i64 b], .agg #[.int .i64 c, .int .i64 d]] w fun e w' => e = .returned (.int .i64 (nameCmp a b c d)) ∧ Below w.heap.size w w' := by
  unfold nameCmp
  go_enter Try.func80, Try.ntmps80
  go_wp2_with fail
  go_region_held3 (fun w' => w'.cell? ⟨w.heap.size, 0, none⟩ = some (.int .i64 a) ∧ w'.cell? ⟨w.heap.size, 1, none⟩ = some (.int .i64 b) ∧ w'.cell? ⟨w.heap.size + 1, 0, none⟩ = some (.int .i64 c) ∧ w'.cell? ⟨w.heap.size + 1, 1, none⟩ = some (.int .i64 d)) (go_keep)
    (first | (go_at_call 77; refine (compare_any _ _ _).mono ?_; rintro e w' ⟨rfl, rfl⟩) | (go_at_call 76; refine (or2_any _ (cmp3 a c) (cmp3 b d) _ ?_ ?_).mono ?_; go_simp; go_simp; rintro e w' ⟨rfl, rfl⟩))
  go_wp2
  go_ret
  exact ⟨rfl, by repeat (first | exact Below.refl _ _ | refine bl_plus ?_ | refine bl_alloc ?_ _ | refine bl_drew ?_)⟩

set_option maxHeartbeats 1600000 in
set_option maxRecDepth 100000 in
theorem order_any (x y : St) (w : World) :
    Calls Try.prog 83 #[x.val, y.val] w fun e w' => e = .returned (.int .i64 (nameCmp x.bl x.no y.bl y.no)) ∧ Below w.heap.size w w' := by
  unfold nameCmp St.val
  go_enter Try.func83, Try.ntmps83
  go_wp2_with fail
  go_region_held3 (fun w' => w'.cell? ⟨w.heap.size, 0, none⟩ = some (.int .i64 x.bl) ∧ w'.cell? ⟨w.heap.size, 1, none⟩ = some (.int .i64 x.no) ∧ w'.cell? ⟨w.heap.size + 1, 0, none⟩ = some (.int .i64 y.bl) ∧ w'.cell? ⟨w.heap.size + 1, 1, none⟩ = some (.int .i64 y.no)) (go_keep)
    (first | (go_at_call 77; refine (compare_any _ _ _).mono ?_; rintro e w' ⟨rfl, rfl⟩) | (go_at_call 76; refine (or2_any _ (cmp3 x.bl y.bl) (cmp3 x.no y.no) _ ?_ ?_).mono ?_; go_simp; go_simp; rintro e w' ⟨rfl, rfl⟩))
  go_wp2
  go_ret
  exact ⟨rfl, by repeat (first | exact Below.refl _ _ | refine bl_plus ?_ | refine bl_alloc ?_ _ | refine bl_drew ?_)⟩

end Go.Proofs.Ytokghdcfbbogdaa
/-
  WORDS FOR MEMORY: a slice of states that reads as a list; what CheckStates computes.
-/
namespace Go.Proofs.Ytokghdcfbbogdaa
open Go.RowKit

def StCells (w : World) (b o : Nat) (x : St) : Prop :=
  w.cell? ⟨b, o, none⟩ = some (.int .i64 x.bl) ∧ w.cell? ⟨b, o + 1, none⟩ = some (.int .i64 x.no) ∧ w.cell? ⟨b, o + 2, none⟩ = some (.int .i64 x.st) ∧
  w.cell? ⟨b, o + 3, none⟩ = some (.int .i64 x.ea) ∧ w.cell? ⟨b, o + 4, none⟩ = some (.int .i64 x.du) ∧ w.cell? ⟨b, o + 5, none⟩ = some (.int .i64 x.la) ∧
  w.cell? ⟨b, o + 6, none⟩ = some (.int .i64 x.ti) ∧ w.cell? ⟨b, o + 7, none⟩ = some (.int .i64 x.lp) ∧ w.cell? ⟨b, o + 8, none⟩ = some (.int .i64 x.bu)

theorem StCells.keep {w w' : World} {b o : Nat} {x : St} (h : StCells w b o x) (hk : ∀ i, w'.cell? ⟨b, i, none⟩ = w.cell? ⟨b, i, none⟩) : StCells w' b o x := by
  obtain ⟨h0, h1, h2, h3, h4, h5, h6, h7, h8⟩ := h
  exact ⟨(hk _).trans h0, (hk _).trans h1, (hk _).trans h2, (hk _).trans h3, (hk _).trans h4, (hk _).trans h5, (hk _).trans h6, (hk _).trans h7, (hk _).trans h8⟩

/-- The slice at A reads as the states xs. -/
def StsAt (w : World) (A : Option Addr) (xs : List St) : Prop :=
  0 < xs.length → ∃ b off, A = some ⟨b, off, none⟩ ∧ b < w.heap.size ∧ ∀ j (h : j < xs.length), StCells w b (off + j * 9) xs[j]

theorem StsAt.below {w w' : World} {A : Option Addr} {xs : List St} (h : StsAt w A xs) (hb : Below w.heap.size w w') : StsAt w' A xs := fun hl => by
  obtain ⟨b, off, hA, hlt, hc⟩ := h hl
  exact ⟨b, off, hA, Nat.lt_of_lt_of_le hlt hb.size, fun j hj => (hc j hj).keep fun i => hb.cell (p := ⟨b, i, none⟩) hlt⟩
theorem StsAt.nil {w : World} {A : Option Addr} : StsAt w A [] := fun h => absurd h (by simp)
theorem StsAt.plus {w : World} {A : Option Addr} {xs : List St} (h : StsAt w A xs) (os : Array Obj) (n : Nat) : StsAt (plus w os n) A xs := h.below (bl_plus (Below.refl _ _))
theorem StsAt.alloc {w : World} {A : Option Addr} {xs : List St} (h : StsAt w A xs) (o : Obj) : StsAt (w.alloc o) A xs := h.below (bl_alloc (Below.refl _ _) o)

/-- A card comes ahead of another one. -/
def St.lt (x y : St) : Prop := x.bl < y.bl ∨ (x.bl = y.bl ∧ x.no < y.no)
instance (x y : St) : Decidable (x.lt y) := by unfold St.lt; infer_instance

def statesFrom (p : Option St) : List St → Int
  | [] => 0
  | x :: xs => if x.err = 0 then (if ∃ q, p = some q ∧ ¬ q.lt x then 5 else statesFrom (some x) xs) else x.err
def statesErr (xs : List St) : Int := if 5000 < xs.length then 4 else statesFrom none xs

theorem statesFrom_bad {p : Option St} {x : St} {xs : List St} (h : x.err ≠ 0) : statesFrom p (x :: xs) = x.err := by simp [statesFrom, h]
theorem statesFrom_none {x : St} {xs : List St} (h : x.err = 0) : statesFrom none (x :: xs) = statesFrom (some x) xs := by simp [statesFrom, h]
theorem statesFrom_lt {q x : St} {xs : List St} (h : x.err = 0) (hq : q.lt x) : statesFrom (some q) (x :: xs) = statesFrom (some x) xs := by simp [statesFrom, h, hq]
theorem statesFrom_ge {q x : St} {xs : List St} (h : x.err = 0) (hq : ¬ q.lt x) : statesFrom (some q) (x :: xs) = 5 := by simp [statesFrom, h, hq]

theorem nameCmp_ge (x y : St) : (0 ≤ nameCmp x.bl x.no y.bl y.no ↔ ¬ x.lt y) := by
  unfold nameCmp or2 cmp3 St.lt
  by_cases h1 : x.bl < y.bl
  · simp [h1]
  · by_cases h2 : y.bl < x.bl
    · have h3 : ¬ x.bl = y.bl := by omega
      simp [h1, h2, h3]
    · have h3 : x.bl = y.bl := by omega
      by_cases h4 : x.no < y.no
      · simp [h3, h4]
      · by_cases h5 : y.no < x.no
        · simp [h3, h4, h5]
        · simp [h3, h4, h5]

end Go.Proofs.Ytokghdcfbbogdaa
