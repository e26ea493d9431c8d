/-
  PROVED: StateReplays returns true for every block, number and list of reviews, and turns nothing: Replay and the reference's Replay compute one and the same. No condition.
-/
import Derived.Test.YtokghdcfbbogdaaRows
import Derived.Test.YtokghdcfbbogdaaWalkJ
import Derived.Test.YtokghdcfbbogdaaRow
import Derived.Test.YtokghdcfbbogdaaOpen
namespace Go.Proofs.Ytokghdcfbbogdaa
open Go.ChangeShapes Go.WideShapes Go.ChangeAt Go.Deep Go.RowKit

section
variable {H : Type} {enc : TypeId × Value → H} {w : World} {base : Nat} {held : Bool}
set_option maxRecDepth 100000 in
/-- A list of reviews that comes in. -/
theorem open_reviews {v : Value} {d : DataW H} {ps : List MemPlace} {r : Reach} {b0 : Nat} (hv : Value.okWide Try.prog w r b0 22 v) (h : DataW.Trod enc Try.prog w base (fun _ => true) held 22 v d ps) :
    ∃ (A : Option Addr) (rs : List Rv) (cap : Nat), v = .slice A rs.length cap ∧ rs.length ≤ cap ∧ cap ≤ maxLen ∧ (A = none → rs = [] ∧ cap = 0) ∧ RvsAt w A rs := by
  obtain ⟨A, len, cap, rfl, h1, h2, h3, h4⟩ := open_int_slice Try.underlying22 Try.underlying65 (by kernel_rfl) (by kernel_rfl) (K := 4) rfl
    (by kernel_rfl) hv h
  by_cases hlen : 0 < len
  · obtain ⟨b, off, hA, hb, hc⟩ := h4 (by decide) hlen
    obtain ⟨l, hl, hq⟩ := list_of (Q := fun i (x : Rv) => w.cell? ⟨b, off + i * 4, none⟩ = some (.int .i64 x.bl) ∧ w.cell? ⟨b, off + i * 4 + 1, none⟩ = some (.int .i64 x.no) ∧
        w.cell? ⟨b, off + i * 4 + 2, none⟩ = some (.int .i64 x.gr) ∧ w.cell? ⟨b, off + i * 4 + 3, none⟩ = some (.int .i64 x.da)) len (fun i hi => by
      obtain ⟨n0, c0, _⟩ := hc i hi 0 (by decide)
      obtain ⟨n1, c1, _⟩ := hc i hi 1 (by decide)
      obtain ⟨n2, c2, _⟩ := hc i hi 2 (by decide)
      obtain ⟨n3, c3, _⟩ := hc i hi 3 (by decide)
      exact ⟨⟨n0, n1, n2, n3⟩, c0, c1, c2, c3⟩)
    subst hl
    exact ⟨A, l, cap, rfl, h1, h2, fun h => by have := h3 h; exact ⟨List.length_eq_zero_iff.1 this.1, this.2⟩, fun _ => ⟨b, off, hA, hb, hq⟩⟩
  · have : len = 0 := by omega
    subst this
    exact ⟨A, [], cap, rfl, h1, h2, fun h => ⟨rfl, (h3 h).2⟩, fun h => absurd h (by simp)⟩
end

set_option maxRecDepth 100000 in
theorem stateReplays_lifted (os : Os) (started : os.Started) (H : Type) (enc : TypeId × Value → H) :
    ReturnsInHanded {} Try.checked os 3 .any (Rows.stateReplaysSpec.pre6 enc Try.prog Try.f3 [] false) (Rows.stateReplaysSpec.post enc Try.prog Try.f3 false true false false) := by
  refine law_lifted started (by kernel_rfl) Try.func3 rfl (by kernel_rfl) Try.underlying4 (fun t ht => ?_) (fun ds hds => ?_)
    (ChangeSpec.witness6 (enc := enc) (C := Try.checked) false ⟨#[], #[.int .i64 0, .int .i64 0, .slice none 0 0], []⟩ 8 (by kernel_rfl) (by kernel_rfl) (by kernel_rfl) (by kernel_rfl)) ?_
  · rw [Try.params3] at ht
    simp only [List.mem_cons, List.not_mem_nil, or_false] at ht
    rcases ht with rfl | rfl | rfl <;> exact ⟨by kernel_rfl, of_decide_eq_true (by kernel_rfl)⟩
  · rw [Try.params3] at hds
    match ds, hds with
    | [d1, d2, d3], _ => rfl
  · intro W b0 args ds p hval hA hlt hsz
    rw [Try.params3] at hA hval
    obtain ⟨v0, v1, v2, d0, d1, d2, p0, p1, p2, rfl, rfl, rfl, h0, h1, h2⟩ := trodAll_three hA
    obtain ⟨a, rfl, rfl, rfl, wa⟩ := open_int Try.underlying3 (hval 0 3 v0 rfl rfl) h0
    obtain ⟨b, rfl, rfl, rfl, wb⟩ := open_int Try.underlying3 (hval 1 3 v1 rfl rfl) h1
    obtain ⟨A, rs, cap, rfl, _, _, _, hA'⟩ := open_reviews (hval 2 _ v2 rfl rfl) h2
    exact stateReplays_any a b A cap rs W hA'

theorem stateReplays_holds : Rows.StateReplaysSaid :=
  OpenClaim.holds_of_wide 3 Try.f3 rfl rfl rfl rfl rfl rfl rfl ⟨rfl, rfl, rfl, rfl, rfl⟩ rfl rfl rfl rfl rfl (by kernel_rfl) Try.func3 (by kernel_rfl)
    (of_decide_eq_true (by kernel_rfl)) (by unfold Func.isWrapper; first | (rw [if_pos (by decide +kernel)]; kernel_rfl) | (rw [if_neg (by decide +kernel)]; exact ⟨rfl, rfl⟩))
    (fun os started H enc _ => stateReplays_lifted os started H enc)

#print axioms stateReplays_holds
end Go.Proofs.Ytokghdcfbbogdaa
