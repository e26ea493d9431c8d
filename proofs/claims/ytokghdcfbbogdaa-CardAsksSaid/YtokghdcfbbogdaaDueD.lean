/-
  WALKS: due and the reference's.
-/
import Derived.Test.YtokghdcfbbogdaaDueC
import Derived.Test.YtokghdcfbbogdaaWalkV
namespace Go.Proofs.Ytokghdcfbbogdaa
open Go.RowKit Go.Shelf Go.Lib

/-- A slice of numbers in a block that the call has made; the block may be longer than the slice can grow. -/
def HalfOwn (w : World) (base : Nat) (v : Value) (ns : List Int) : Prop :=
  ∃ A c, v = .slice A ns.length c ∧ ns.length ≤ c ∧ c ≤ maxLen ∧ ((A = none ∧ ns.length = 0 ∧ c = 0) ∨ ∃ g cur, A = some ⟨g, 0, none⟩ ∧ base ≤ g ∧ w.heap[g]? = some (.cells cur 3 (0, 0)) ∧ c ≤ cur.size ∧ cur.toList.take ns.length = ns.map (Value.int .i64))
def DueOut (xs : List St) (d : Int) (w : World) (e : Ending) (w' : World) : Prop := ∃ v, e = .returned v ∧ HalfOwn w' w.heap.size v (dueList xs d) ∧ Below w.heap.size w w'
theorem dueOut_mk {w w' : World} {A : Option Addr} {c c2 n : Nat} {xs : List St} {d : Int} (h : w'.ownsRow (w.heap.size + 1) 3 1 (.slice A n c) n ((dueList xs d).map (Value.int .i64))) (h1 : n ≤ c2) (hb : Below w.heap.size w w') (hc2 : c2 ≤ c := by first | assumption | exact Nat.le_refl _) : DueOut xs d w (.returned (.slice A n c2)) w' := by
  have hlen : (dueList xs d).length = n := by have := h.1; simpa using this
  refine ⟨_, rfl, ⟨A, c2, by rw [hlen], by omega, ?_⟩, hb⟩
  rcases h.2 with ⟨hv, h0⟩ | ⟨g, cap, cur, hv, hg, hh, h3, h4, h5, h6⟩
  · injection hv with hA _ hc
    refine ⟨by omega, .inl ⟨hA, by omega, by omega⟩⟩
  · injection hv with hA _ hc
    refine ⟨by omega, .inr ⟨g, cur, hA, by omega, hh, by omega, ?_⟩⟩
    rw [hlen, ← h6, Nat.mul_one]

set_option maxHeartbeats 3200000 in
set_option maxRecDepth 100000 in
theorem due_any (A : Option Addr) (c : Nat) (xs : List St) (d : Int) (w : World) (hA : StsAt w A xs) (h : statesErr xs = 0) :
    Calls Try.prog 66 #[.slice A xs.length c, .int .i64 d] w (DueOut xs d w) := by
  have hl := len_of_statesErr h
  have HA := hide hA
  clear h hA
  go_enter Try.func66, Try.ntmps66
  go_wp2
  go_loopw [5, 10] (fun v i wr => ∃ (k : Nat) (os : Array Obj) (n : Nat), k ≤ xs.length ∧ i = .int .i64 k ∧ wr = plus (w.alloc (.cells #[.slice A xs.length c] 36)) os n ∧ wr.ownsRow (w.heap.size + 1) 3 1 v (pick (asked d) xs k).length ((pick (asked d) xs k).map (Value.int .i64)))
    (fun _ i _ => xs.length - (intOf i).toNat)
  case atStart => exact ⟨0, #[], _, Nat.zero_le _, rfl, plus_nil.symm, own_none⟩
  case round =>
    obtain ⟨k, os, n, hk, rfl, rfl, hown⟩ := hrel
    by_cases hlt : k < xs.length
    · obtain ⟨b, off, rfl, hb, hcell⟩ := HA.out (by omega)
      have hxk : xs[k]? = some xs[k] := List.getElem?_eq_getElem hlt
      have hc0 := hcell k hlt
      clear hcell
      generalize xs[k] = x at hc0 hxk
      have hask := fun w => askedFor_any x d w
      simp only [St.val] at hask
      have hcases : asked d x = true ∨ asked d x = false := by cases asked d x <;> simp
      obtain ⟨c0, c1, c2, c3, c4, c5, c6, c7, c8⟩ := hc0
      have HX := hide hxk
      have hpl := pick_le (asked d) xs k
      clear hxk
      rcases hcases with hq | hq
      · rw [hq] at hask
        have HK := hide hask
        have HQ := hide hq
        clear hq hask
        go_wp2_with (first | (go_at_call 73; refine (HK.out _).mono ?_; rintro e w' ⟨rfl, hb⟩; obtain ⟨os1, n1, rfl⟩ := below_plus hb; clear hb) | (at_builtin; refine wpList_append_int rfl (.tmp 18) (.tmp 20) rfl (w.heap.size + 1) _ _ (pick (asked d) xs k) _ _ rfl ((hown.alloc _) |> fun h => own_plus h) rfl (by simp [plus_size]) (by omega) (by simp [plus_size]; omega) ?_; intro v' w1 hown1 hb1; obtain ⟨os3, n3, rfl⟩ := over_plus (L := w.alloc (.cells #[.slice (some ⟨b, off, none⟩) xs.length c] 36)) (by simp) (by repeat (first | exact Below.refl _ _ | refine bl_plus ?_ | refine bl_alloc ?_ _ | refine bl_drew ?_)) hb1; clear hb1))
        go_roundw
        case rel => exact ⟨k + 1, _, _, hlt, by go_num, rfl, by rw [pick_yes HX.out HQ.out]; simpa using hown1⟩
        case measure => simp [intOf]; omega
      · rw [hq] at hask
        have HK := hide hask
        have HQ := hide hq
        clear hq hask
        go_wp2_with (go_at_call 73; refine (HK.out _).mono ?_; rintro e w' ⟨rfl, hb⟩; obtain ⟨os1, n1, rfl⟩ := below_plus hb; clear hb)
        go_roundw
        case rel => exact ⟨k + 1, _, _, hlt, by go_num, by rw [plus_alloc, plus_plus], by rw [pick_no HX.out HQ.out]; exact own_plus (hown.alloc _)⟩
        case measure => simp [intOf]; omega
    · have hkl : k = xs.length := by omega
      subst hkl
      obtain ⟨B, c', rfl, hnc, hcm, hBn⟩ := own_form hown
      have hsrt := sortDue_any w.heap.size A B c c' _ (w.heap.size + 1) xs d w _ HA.out (bl_plus (bl_alloc (Below.refl _ _) _)) (Nat.le_succ _) (by rw [plus_size, World.size_alloc]; omega) (Nat.lt_succ_self _) (by rw [plus_cell (by simp)]; simp) hl hown
      have HS := hide hsrt
      clear hsrt hown
      go_wp2_with (first | (go_at_call 72; refine (clipInts_any _ _ _ _ (by assumption)).mono ?_; rintro e w' ⟨rfl, rfl⟩) | (go_at_call 93; refine HS.out.mono ?_; rintro e w' ⟨rfl, hb, hown2⟩; obtain ⟨os3, n3, rfl⟩ := over_plus (L := w.alloc (.cells #[.slice A xs.length c] 36)) (by simp) (by repeat (first | exact Below.refl _ _ | refine bl_plus ?_ | refine bl_alloc ?_ _ | refine bl_drew ?_)) hb; clear hb; have HO := hide hown2; clear hown2))
      go_returns
      exact dueOut_mk HO.out (by first | exact Nat.le_refl _ | assumption) (by repeat (first | exact Below.refl _ _ | refine bl_plus ?_ | refine bl_alloc ?_ _ | refine bl_drew ?_))

set_option maxHeartbeats 3200000 in
set_option maxRecDepth 100000 in
theorem dueAt_any (A : Option Addr) (c : Nat) (xs : List St) (d : Int) (w : World) (hA : StsAt w A xs) (h : statesErr xs = 0) :
    Calls Try.prog 67 #[.slice A xs.length c, .int .i64 d] w (DueOut xs d w) := by
  have hl := len_of_statesErr h
  have hgood := fun k (hk : k < xs.length) => asked_of_err (err_of_statesErr h k hk)
  have HG := hide hgood
  clear hgood
  have HA := hide hA
  clear h hA
  go_enter Try.func67, Try.ntmps67
  go_wp2
  go_loopw [5, 10] (fun v i wr => ∃ (k : Nat) (os : Array Obj) (n : Nat), k ≤ xs.length ∧ i = .int .i64 k ∧ wr = plus (w.alloc (.cells #[.slice A xs.length c] 36)) os n ∧ wr.ownsRow (w.heap.size + 1) 3 1 v (pick (asked d) xs k).length ((pick (asked d) xs k).map (Value.int .i64)))
    (fun _ i _ => xs.length - (intOf i).toNat)
  case atStart => exact ⟨0, #[], _, Nat.zero_le _, rfl, plus_nil.symm, own_none⟩
  case round =>
    obtain ⟨k, os, n, hk, rfl, rfl, hown⟩ := hrel
    by_cases hlt : k < xs.length
    · obtain ⟨b, off, rfl, hb, hcell⟩ := HA.out (by omega)
      have hxk : xs[k]? = some xs[k] := List.getElem?_eq_getElem hlt
      have hc0 := hcell k hlt
      clear hcell
      have hgk := HG.out k hlt
      generalize xs[k] = x at hc0 hxk hgk
      have hcases : ((0 < x.ti ∧ x.du ≤ d ∧ x.bu < d) ∧ asked d x = true) ∨ (¬ 0 < x.ti ∧ asked d x = false) ∨ (0 < x.ti ∧ ¬ x.du ≤ d ∧ asked d x = false) ∨ (0 < x.ti ∧ x.du ≤ d ∧ ¬ x.bu < d ∧ asked d x = false) := by
        have h0 := hgk.1
        unfold asked
        simp only [decide_eq_true_eq, decide_eq_false_iff_not]
        omega
      clear hgk
      obtain ⟨c0, c1, c2, c3, c4, c5, c6, c7, c8⟩ := hc0
      have HX := hide hxk
      have hpl := pick_le (asked d) xs k
      clear hxk
      rcases hcases with ⟨⟨q1, q2, q3⟩, hq⟩ | ⟨q1, hq⟩ | ⟨q1, q2, hq⟩ | ⟨q1, q2, q3, hq⟩
      · have HQ := hide hq
        clear hq
        go_wp2_with ((at_builtin; refine wpList_append_int rfl (.tmp 30) (.tmp 32) rfl (w.heap.size + 1) _ _ (pick (asked d) xs k) _ _ rfl ((hown.alloc _)) rfl (by simp [plus_size]) (by omega) (by simp [plus_size]; omega) ?_; intro v' w1 hown1 hb1; obtain ⟨os3, n3, rfl⟩ := over_plus (L := w.alloc (.cells #[.slice (some ⟨b, off, none⟩) xs.length c] 36)) (by simp) (by repeat (first | exact Below.refl _ _ | refine bl_plus ?_ | refine bl_alloc ?_ _ | refine bl_drew ?_)) hb1; clear hb1))
        go_roundw
        case rel => exact ⟨k + 1, _, _, hlt, by go_num, rfl, by rw [pick_yes HX.out HQ.out]; simpa using hown1⟩
        case measure => simp [intOf]; omega
      · have HQ := hide hq
        clear hq
        go_wp2
        go_roundw
        case rel => exact ⟨k + 1, _, _, hlt, by go_num, by rw [plus_alloc], by rw [pick_no HX.out HQ.out]; exact hown.alloc _⟩
        case measure => simp [intOf]; omega
      · have HQ := hide hq
        clear hq
        go_wp2
        go_roundw
        case rel => exact ⟨k + 1, _, _, hlt, by go_num, by rw [plus_alloc], by rw [pick_no HX.out HQ.out]; exact hown.alloc _⟩
        case measure => simp [intOf]; omega
      · have HQ := hide hq
        clear hq
        go_wp2
        go_roundw
        case rel => exact ⟨k + 1, _, _, hlt, by go_num, by rw [plus_alloc], by rw [pick_no HX.out HQ.out]; exact hown.alloc _⟩
        case measure => simp [intOf]; omega
    · have hkl : k = xs.length := by omega
      subst hkl
      obtain ⟨B, c', rfl, hnc, hcm, hBn⟩ := own_form hown
      have hsrt := sortDueAt_any w.heap.size A B c c' _ (w.heap.size + 1) xs d w _ HA.out (bl_plus (bl_alloc (Below.refl _ _) _)) (Nat.le_succ _) (by rw [plus_size, World.size_alloc]; omega) (Nat.lt_succ_self _) (by rw [plus_cell (by simp)]; simp) hl hown
      have HS := hide hsrt
      clear hsrt hown
      go_wp2_with ((go_at_call 93; refine HS.out.mono ?_; rintro e w' ⟨rfl, hb, hown2⟩; obtain ⟨os3, n3, rfl⟩ := over_plus (L := w.alloc (.cells #[.slice A xs.length c] 36)) (by simp) (by repeat (first | exact Below.refl _ _ | refine bl_plus ?_ | refine bl_alloc ?_ _ | refine bl_drew ?_)) hb; clear hb; have HO := hide hown2; clear hown2))
      go_returns
      exact dueOut_mk HO.out (by first | exact Nat.le_refl _ | assumption) (by repeat (first | exact Below.refl _ _ | refine bl_plus ?_ | refine bl_alloc ?_ _ | refine bl_drew ?_))

end Go.Proofs.Ytokghdcfbbogdaa
