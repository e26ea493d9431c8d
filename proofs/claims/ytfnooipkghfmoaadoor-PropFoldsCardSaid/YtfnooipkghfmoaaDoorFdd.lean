/-
  WALKS: a number as a value; floor at greater numbers.
-/
import Derived.Test.YtfnooipkghfmoaaDoorFdc
import Derived.Test.YtfnooipkghfmoaaDoorDayA
set_option linter.all false
namespace Go.Proofs.YtfnooipkghfmoaaDoor
open Go.RowKit Go.Lib

set_option maxHeartbeats 800000 in
theorem numberP_any (n : Int) (w : World) :
    Calls Tryd.prog 53 #[.int .i64 n] w fun e w' => e = .returned (.agg #[.int .i64 2, .int .i64 n, .int .i64 0, .string ⟨#[]⟩, .slice none 0 0]) ∧ Below w.heap.size w w' := by
  go_enter Tryd.func53, Tryd.ntmps53
  go_wp2
  exact bodyPost_ret (v := .agg #[.int .i64 2, .int .i64 n, .int .i64 0, .string ⟨#[]⟩, .slice none 0 0]) (by simp [results, Tryd.results53, go_sem]) rfl ⟨rfl, (by repeat (first | exact Below.refl _ _ | refine bl_plus ?_ | refine bl_alloc ?_ _ | refine bl_drew ?_ | refine bl_drewN ?_ _))⟩
set_option maxHeartbeats 800000 in
theorem numberR_any (n : Int) (w : World) :
    Calls Tryd.prog 19 #[.int .i64 n] w fun e w' => e = .returned (.tuple #[.agg #[.int .i64 2, .int .i64 n, .int .i64 0, .string ⟨#[]⟩, .slice none 0 0], .int .i64 0]) ∧ Below w.heap.size w w' := by
  go_enter Tryd.func19, Tryd.ntmps19
  go_wp2
  exact bodyPost_ret (v := .tuple #[.agg #[.int .i64 2, .int .i64 n, .int .i64 0, .string ⟨#[]⟩, .slice none 0 0], .int .i64 0]) (by simp [results, Tryd.results19, go_sem]) rfl ⟨rfl, (by repeat (first | exact Below.refl _ _ | refine bl_plus ?_ | refine bl_alloc ?_ _ | refine bl_drew ?_ | refine bl_drewN ?_ _))⟩

theorem tdiv_in {a b M : Int} (h1 : -M ≤ a) (h2 : a ≤ M) (hb : 0 < b) : -M ≤ a.tdiv b ∧ a.tdiv b ≤ M := by
  rcases Int.le_total 0 a with h | h
  · rw [Int.tdiv_eq_ediv_of_nonneg h]
    have := Int.ediv_nonneg h (Int.le_of_lt hb)
    have := Int.ediv_le_self b h
    omega
  · have e1 : a.tdiv b = -((-a) / b) := by
      rw [← Int.tdiv_eq_ediv_of_nonneg (show 0 ≤ -a by omega), Int.neg_tdiv, Int.neg_neg]
    rw [e1]
    have := Int.ediv_nonneg (show 0 ≤ -a by omega) (Int.le_of_lt hb)
    have := Int.ediv_le_self b (show 0 ≤ -a by omega)
    omega

set_option maxHeartbeats 800000 in
theorem floor_wide (a b : Int) (w : World) (h1 : -10000000000000 ≤ a) (h2 : a ≤ 10000000000000) (hb : 0 < b) (hb2 : b ≤ 1000000) :
    Calls Tryd.prog 22 #[.int .i64 a, .int .i64 b] w fun e w' => e = .returned (.int .i64 (a / b)) ∧ w = w' := by
  obtain ⟨q1, q2⟩ := tdiv_in h1 h2 hb
  have h5 : (b == 0) = false := by simp; omega
  have hfl := tdiv_floor a b hb
  have HF := hide hfl
  have xx : ∀ T : Int, -10000000000000 ≤ T → T ≤ 10000000000000 → IntKind.i64.wrap T = T ∧ IntKind.i64.wrap (T - 1) = T - 1 := fun T t1 t2 => ⟨IntWalk.i64_in _ (by omega), IntWalk.i64_in _ (by omega)⟩
  obtain ⟨x1, x2⟩ := xx _ q1 q2
  clear hfl xx
  by_cases hlt : a.tmod b < 0
  · have HF2 := hide ((if_pos hlt).symm.trans HF.out)
    go_enter Tryd.func22, Tryd.ntmps22
    go_wp2
    go_ret
    exact ⟨ret_int HF2.out, rfl⟩
  · have HF2 := hide ((if_neg hlt).symm.trans HF.out)
    go_enter Tryd.func22, Tryd.ntmps22
    go_wp2
    go_ret
    exact ⟨ret_int HF2.out, rfl⟩

theorem stL_all {w0 : World} {p : In0 w0 → Prop} {xs : List (In0 w0)} (h : ∀ q ∈ xs, p q) : ∀ q ∈ stL xs, p q := by
  intro q hq
  obtain ⟨k, hk2, rfl⟩ := Array.mem_iff_getElem.1 (Array.mem_toList_iff.1 (show q ∈ (stableF (ltOf cf0) xs.toArray).toList from hq))
  have h2 := stableF_all (ltOf cf0) (p := p) (d := xs.toArray) (fun j hj => by
    rw [getElem!_pos _ j hj]
    exact h _ (by simp)) k hk2
  rw [getElem!_pos _ k hk2] at h2
  exact h2

end Go.Proofs.YtfnooipkghfmoaaDoor
