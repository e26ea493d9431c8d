/-
  PROVED: TopYear returns true for every list of states, list of grades, day, two numbers of days and bounds, and turns nothing: a simulated time is the same as its two parts, and no day has more than its bounds. No condition.
-/
import Derived.Test.YtokghdcfbbogdaaRows
import Derived.Test.YtokghdcfbbogdaaYearC
import Derived.Test.YtokghdcfbbogdaaOpenc
import Derived.ChangeSlices
import Derived.OpenShut
namespace Go.Proofs.Ytokghdcfbbogdaa
open Go.ChangeShapes Go.WideShapes Go.ChangeAt Go.Deep Go.RowKit

set_option maxHeartbeats 3200000 in
set_option maxRecDepth 100000 in
theorem topYear_early (A A2 : Option Addr) (c c2 : Nat) (xs : List St) (gs : List Int) (fr x y bn ba : Int) (w : World) (hA : StsAt w A xs) (hnil : A = none → xs = [] ∧ c = 0) (hG : IntsAt w A2 gs)
    (h : (simulate xs gs fr (wrap64 (x + y)) bn ba).2 ≠ 0 ∨ x < 0 ∨ y < 0) :
    Calls Try.prog 12 #[.slice A xs.length c, .slice A2 gs.length c2, .int .i64 fr, .int .i64 x, .int .i64 y, .agg #[.int .i64 bn, .int .i64 ba]] w fun e w' => e = .returned (.bool true) ∧ Below w.heap.size w w' := by
  have hC1 := fun w h h' => simulate_any A A2 c c2 xs gs fr (wrap64 (x + y)) bn ba w h hnil h'
  generalize simulate xs gs fr (wrap64 (x + y)) bn ba = q at h hC1
  obtain ⟨⟨all, counts⟩, r⟩ := q
  simp only at h
  have h3 : (¬ r = 0) ∨ (r = 0 ∧ x < 0) ∨ (r = 0 ∧ 0 ≤ x ∧ y < 0) := by omega
  have HC1 := hide hC1
  have HA := hide hA
  have HG := hide hG
  clear hC1 hA hG hnil h
  rcases h3 with h3 | ⟨rfl, h4⟩ | ⟨rfl, h4, h5⟩
  all_goals
    go_enter Try.func12, Try.ntmps12
    go_wp2_with (go_at_call 41; refine (awake_any _).mono ?_; rintro e w' ⟨rfl, hb⟩; obtain ⟨os0, n0, rfl⟩ := below_plus hb; clear hb)
    have hx := HC1.out (plus (w.alloc (.cells #[.int .i64 bn, .int .i64 ba] 43)) os0 n0) (HA.out.below (by repeat (first | exact Below.refl _ _ | refine bl_plus ?_ | refine bl_alloc ?_ _ | refine bl_drew ?_))) (HG.out.below (by repeat (first | exact Below.refl _ _ | refine bl_plus ?_ | refine bl_alloc ?_ _ | refine bl_drew ?_)))
    with_reducible refine hx.mono ?_
    clear hx
    rintro e w' ⟨A3, c3, B3, d3, rfl, hS, hI, hz, hb⟩
    obtain ⟨os1, n1, rfl⟩ := below_plus hb
    clear hb hS hI hz
    go_wp2
    go_returns
    exact ⟨rfl, (by repeat (first | exact Below.refl _ _ | refine bl_plus ?_ | refine bl_alloc ?_ _ | refine bl_drew ?_))⟩

theorem topYear_any (A A2 : Option Addr) (c c2 : Nat) (xs : List St) (gs : List Int) (fr x y bn ba : Int) (w : World) (hA : StsAt w A xs) (hnil : A = none → xs = [] ∧ c = 0) (hG : IntsAt w A2 gs) (hc2 : gs.length ≤ c2)
    (wx : (Lit.int .i64 x).wf = true) (wy : (Lit.int .i64 y).wf = true) :
    Calls Try.prog 12 #[.slice A xs.length c, .slice A2 gs.length c2, .int .i64 fr, .int .i64 x, .int .i64 y, .agg #[.int .i64 bn, .int .i64 ba]] w fun e w' => e = .returned (.bool true) ∧ Below w.heap.size w w' := by
  by_cases h : (simulate xs gs fr (wrap64 (x + y)) bn ba).2 ≠ 0 ∨ x < 0 ∨ y < 0
  · exact topYear_early A A2 c c2 xs gs fr x y bn ba w hA hnil hG h
  · have h1 : (simulate xs gs fr (wrap64 (x + y)) bn ba).2 = 0 := by
      by_cases h1 : (simulate xs gs fr (wrap64 (x + y)) bn ba).2 = 0
      · exact h1
      · exact absurd (.inl h1) h
    have h2 : 0 ≤ x ∧ 0 ≤ y := by omega
    obtain ⟨_, hs⟩ := simulate_zero h1
    obtain ⟨_, _, _, _, hd, _, _⟩ := simErr_zero hs
    have bx := bounds_i64 wx
    have by' := bounds_i64 wy
    have hw : wrap64 (x + y) = x + y := by unfold wrap64 at hd ⊢; omega
    obtain ⟨N1, rfl⟩ := Int.eq_ofNat_of_zero_le h2.1
    obtain ⟨N2, rfl⟩ := Int.eq_ofNat_of_zero_le h2.2
    rw [hw] at hd
    have e : ((N1 + N2 : Nat) : Int) = wrap64 ((N1 : Int) + (N2 : Int)) := by rw [hw]; omega
    have h5 : (simulate xs gs fr ((N1 + N2 : Nat) : Int) bn ba).2 = 0 := by rw [e]; exact h1
    exact topYear_main A A2 c c2 xs gs fr N1 N2 bn ba w hA hnil hG hc2 (by omega) h5

section
variable {H : Type} {enc : TypeId × Value → H} {w : World} {base : Nat} {held : Bool}
set_option maxRecDepth 100000 in
/-- A list of numbers that comes in. -/
theorem open_numbers {v : Value} {d : DataW H} {ps : List MemPlace} {r : Reach} {b0 : Nat} (hv : Value.okWide Try.prog w r b0 31 v) (h : DataW.Trod enc Try.prog w base (fun _ => true) held 31 v d ps) :
    ∃ (A : Option Addr) (ns : List Int) (cap : Nat), v = .slice A ns.length cap ∧ ns.length ≤ cap ∧ cap ≤ maxLen ∧ (A = none → ns = [] ∧ cap = 0) ∧ IntsAt w A ns := by
  obtain ⟨A, len, cap, rfl⟩ := okWide_slice Try.underlying31 hv
  obtain ⟨fuel, hf⟩ := h
  rcases open_ints Try.underlying31 Try.underlying3 (by kernel_rfl) hf with ⟨hcs, _⟩ | ⟨a, len', cap', zs, hcs, _, hl, hm, hmm, _, hi, _⟩
  · simp [Value.cells] at hcs
    obtain ⟨rfl, rfl, rfl⟩ := hcs
    exact ⟨none, [], 0, rfl, Nat.le_refl _, by simp [maxLen], fun _ => ⟨rfl, rfl⟩, fun h => absurd h (by simp)⟩
  · simp [Value.cells] at hcs
    obtain ⟨rfl, rfl, rfl⟩ := hcs
    simp only [if_true] at hmm
    have hlen : (zs.take len).length = len := by rw [List.length_take]; omega
    refine ⟨some a, zs.take len, cap, by rw [hlen], by rw [hlen]; exact hl, hm, (fun h => by cases h), fun h0 => ?_⟩
    rw [hlen] at h0
    have h00 := hi 0 (by omega)
    have hspot : a.spot = none := by simpa [Addr.add] using World.cell?_spot h00
    obtain ⟨b, off, spot⟩ := a
    simp only at hspot
    subst hspot
    have hb : b < w.heap.size := by
      have := lt_of_cell h00
      simpa [Addr.add] using this
    refine ⟨b, off, rfl, hb, fun j hj => ?_⟩
    rw [hlen] at hj
    have := hi j (by omega)
    rw [add_plain] at this
    rw [this, List.getElem_take, List.getD_eq_getElem?_getD, List.getElem?_eq_getElem (by omega), Option.getD_some]
set_option maxRecDepth 100000 in
/-- Bounds that come in by value. -/
theorem open_bounds2 {v : Value} {d : DataW H} {ps : List MemPlace} {r : Reach} {b0 : Nat} {spare : Nat → Bool} (hv : Value.okWide Try.prog w r b0 43 v) (h : DataW.Trod enc Try.prog w base spare held 43 v d ps) : ∃ a b : Int, v = .agg #[.int .i64 a, .int .i64 b] := by
  obtain ⟨cs, rfl, hsz⟩ := okWide_struct Try.underlying43 hv
  obtain ⟨fuel, hf⟩ := h
  have hone := open_int_agg Try.underlying43 (by kernel_rfl) (by kernel_rfl) (K := 2) rfl (by kernel_rfl) hf hsz
  obtain ⟨l⟩ := cs
  obtain ⟨ns, hl, hns⟩ := hone
  simp only at hl
  subst hl
  match ns, hns with
  | [a0, a1], _ => exact ⟨a0, a1, rfl⟩
end

set_option maxRecDepth 100000 in
theorem topYear_lifted (os : Os) (started : os.Started) (H : Type) (enc : TypeId × Value → H) :
    ReturnsInHanded {} Try.checked os 12 .any (Rows.topYearSpec.pre6 enc Try.prog Try.f12 [] false) (Rows.topYearSpec.post enc Try.prog Try.f12 false true false false) := by
  refine law_lifted started (by kernel_rfl) Try.func12 rfl (by kernel_rfl) Try.underlying4 (fun t ht => ?_) (fun ds hds => ?_)
    (ChangeSpec.witness6 (enc := enc) (C := Try.checked) false ⟨#[], #[.slice none 0 0, .slice none 0 0, .int .i64 0, .int .i64 0, .int .i64 0, .agg #[.int .i64 0, .int .i64 0]], []⟩ 8 (by kernel_rfl) (by kernel_rfl) (by kernel_rfl) (by kernel_rfl)) ?_
  · rw [Try.params12] at ht
    simp only [List.mem_cons, List.not_mem_nil, or_false] at ht
    rcases ht with rfl | rfl | rfl | rfl | rfl | rfl <;> exact ⟨by kernel_rfl, of_decide_eq_true (by kernel_rfl)⟩
  · rw [Try.params12] at hds
    match ds, hds with
    | [d1, d2, d3, d4, d5, d6], _ => rfl
  · intro W b0 args ds p hval hA hlt hsz
    rw [Try.params12] at hA hval
    obtain ⟨v0, v1, v2, v3, v4, v5, d0, d1, d2, d3, d4, d5, p0, p1, p2, p3, p4, p5, rfl, rfl, rfl, h0, h1, h2, h3, h4, h5⟩ := trodAll_six hA
    obtain ⟨A, xs, cap, rfl, _, _, hnil, hA'⟩ := open_states (hval 0 _ v0 rfl rfl) h0
    obtain ⟨B, gs, cap2, rfl, hc2, _, _, hB'⟩ := open_numbers (hval 1 _ v1 rfl rfl) h1
    obtain ⟨a, rfl, rfl, rfl, wa⟩ := open_int Try.underlying3 (hval 2 _ v2 rfl rfl) h2
    obtain ⟨b, rfl, rfl, rfl, wb⟩ := open_int Try.underlying3 (hval 3 _ v3 rfl rfl) h3
    obtain ⟨d, rfl, rfl, rfl, wd⟩ := open_int Try.underlying3 (hval 4 _ v4 rfl rfl) h4
    obtain ⟨bn, ba, rfl⟩ := open_bounds2 (hval 5 _ v5 rfl rfl) h5
    exact topYear_any A B cap cap2 xs gs a b d bn ba W hA' hnil hB' hc2 wb wd

theorem topYear_holds : Rows.TopYearSaid :=
  OpenClaim.holds_of_wide 12 Try.f12 rfl rfl rfl rfl rfl rfl rfl ⟨rfl, rfl, rfl, rfl, rfl⟩ rfl rfl rfl rfl rfl (by kernel_rfl) Try.func12 (by kernel_rfl)
    (of_decide_eq_true (by kernel_rfl)) (by unfold Func.isWrapper; first | (rw [if_pos (by decide +kernel)]; kernel_rfl) | (rw [if_neg (by decide +kernel)]; exact ⟨rfl, rfl⟩))
    (fun os started H enc _ => topYear_lifted os started H enc)

#print axioms topYear_holds
end Go.Proofs.Ytokghdcfbbogdaa
