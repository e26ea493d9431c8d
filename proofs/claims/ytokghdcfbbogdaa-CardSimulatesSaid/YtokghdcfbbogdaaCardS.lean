/-
  PROVED: CardSimulates returns true for every list of states, list of grades, day, number of days and bounds, and turns nothing: Simulate computes what the reference's does. No condition.
-/
import Derived.Test.YtokghdcfbbogdaaRows
import Derived.Test.YtokghdcfbbogdaaSimF
import Derived.Test.YtokghdcfbbogdaaRow
import Derived.Test.YtokghdcfbbogdaaOpenc
import Derived.ChangeSlices
namespace Go.Proofs.Ytokghdcfbbogdaa
open Go.ChangeShapes Go.WideShapes Go.ChangeAt Go.Deep Go.RowKit

theorem simAsk_len {gs : List Int} {d : Int} : ∀ (zs : List Int) (xs : List St) (g : Nat) (ys : List St) (h : Nat), simAsk gs d zs xs g = some (ys, h) → ys.length = xs.length := by
  intro zs
  induction zs with
  | nil => intro xs g ys h e; simp only [simAsk, Option.some.injEq, Prod.mk.injEq] at e; rw [e.1]
  | cons z zs ih =>
    intro xs g ys h e
    simp only [simAsk] at e
    split at e
    · cases e
    · split at e
      · cases e
      · have := ih _ _ _ _ e
        rw [this, List.length_set]
theorem simDays_len {gs : List Int} {bn ba : Int} : ∀ (n : Nat) (d : Int) (xs : List St) (g : Nat) (cs : List Int) (r : List St × List Int), simDays gs bn ba n d xs g cs = some r → r.1.length = xs.length ∧ r.2.length = cs.length + n := by
  intro n
  induction n with
  | zero => intro d xs g cs r e; simp only [simDays, Option.some.injEq] at e; subst e; exact ⟨rfl, rfl⟩
  | succ n ih =>
    intro d xs g cs r e
    simp only [simDays] at e
    split at e
    · cases e
    · rename_i ys h he
      have := ih _ _ _ _ _ e
      rw [this.1, this.2, simAsk_len _ _ _ _ _ he]
      simp; omega
theorem simulate_len (xs : List St) (gs : List Int) (fr days bn ba : Int) : (simulate xs gs fr days bn ba).1.1.length ≤ maxLen ∧ (simulate xs gs fr days bn ba).1.2.length ≤ maxLen := by
  unfold simulate
  split
  · rename_i h
    have hl := len_of_statesErr h
    split
    · rename_i hs
      have hz := simErr_zero hs
      split
      · simp [maxLen]
      · rename_i r hr
        have := simDays_len _ _ _ _ _ _ hr
        simp only [List.length_nil] at this
        unfold maxLen; simp only []; omega
    · simp [maxLen]
  · simp [maxLen]

section
variable {H : Type} {enc : TypeId × Value → H} {w : World} {base : Nat} {held : Bool}
set_option maxRecDepth 100000 in
/-- A list of numbers that comes in. -/
theorem open_numbers {v : Value} {d : DataW H} {ps : List MemPlace} {r : Reach} {b0 : Nat} (hv : Value.okWide Try.prog w r b0 31 v) (h : DataW.Trod enc Try.prog w base (fun _ => true) held 31 v d ps) :
    ∃ (A : Option Addr) (ns : List Int) (cap : Nat), v = .slice A ns.length cap ∧ ns.length ≤ cap ∧ cap ≤ maxLen ∧ (A = none → ns = [] ∧ cap = 0) ∧ IntsAt w A ns := by
  obtain ⟨A, len, cap, rfl⟩ := okWide_slice Try.underlying31 hv
  obtain ⟨fuel, hf⟩ := h
  rcases open_ints Try.underlying31 Try.underlying3 (by kernel_rfl) hf with ⟨hcs, _⟩ | ⟨a, len', cap', zs, hcs, _, hl, hm, hmm, _, hi, _⟩
  · simp [Value.cells] at hcs
    obtain ⟨rfl, rfl, rfl⟩ := hcs
    exact ⟨none, [], 0, rfl, Nat.le_refl _, by simp [maxLen], fun _ => ⟨rfl, rfl⟩, fun h => absurd h (by simp)⟩
  · simp [Value.cells] at hcs
    obtain ⟨rfl, rfl, rfl⟩ := hcs
    simp only [if_true] at hmm
    have hlen : (zs.take len).length = len := by rw [List.length_take]; omega
    refine ⟨some a, zs.take len, cap, by rw [hlen], by rw [hlen]; exact hl, hm, (fun h => by cases h), fun h0 => ?_⟩
    rw [hlen] at h0
    have h00 := hi 0 (by omega)
    have hspot : a.spot = none := by simpa [Addr.add] using World.cell?_spot h00
    obtain ⟨b, off, spot⟩ := a
    simp only at hspot
    subst hspot
    have hb : b < w.heap.size := by
      have := lt_of_cell h00
      simpa [Addr.add] using this
    refine ⟨b, off, rfl, hb, fun j hj => ?_⟩
    rw [hlen] at hj
    have := hi j (by omega)
    rw [add_plain] at this
    rw [this, List.getElem_take, List.getD_eq_getElem?_getD, List.getElem?_eq_getElem (by omega), Option.getD_some]
set_option maxRecDepth 100000 in
/-- Bounds that come in by value. -/
theorem open_bounds2 {v : Value} {d : DataW H} {ps : List MemPlace} {r : Reach} {b0 : Nat} {spare : Nat → Bool} (hv : Value.okWide Try.prog w r b0 43 v) (h : DataW.Trod enc Try.prog w base spare held 43 v d ps) : ∃ a b : Int, v = .agg #[.int .i64 a, .int .i64 b] := by
  obtain ⟨cs, rfl, hsz⟩ := okWide_struct Try.underlying43 hv
  obtain ⟨fuel, hf⟩ := h
  have hone := open_int_agg Try.underlying43 (by kernel_rfl) (by kernel_rfl) (K := 2) rfl (by kernel_rfl) hf hsz
  obtain ⟨l⟩ := cs
  obtain ⟨ns, hl, hns⟩ := hone
  simp only at hl
  subst hl
  match ns, hns with
  | [a0, a1], _ => exact ⟨a0, a1, rfl⟩
end

set_option maxHeartbeats 3200000 in
set_option maxRecDepth 100000 in
theorem cardSimulates_any (A A2 : Option Addr) (c c2 : Nat) (xs : List St) (gs : List Int) (fr days bn ba : Int) (w : World) (hA : StsAt w A xs) (hnil : A = none → xs = [] ∧ c = 0) (hG : IntsAt w A2 gs) :
    Calls Try.prog 8 #[.slice A xs.length c, .slice A2 gs.length c2, .int .i64 fr, .int .i64 days, .agg #[.int .i64 bn, .int .i64 ba]] w fun e w' => e = .returned (.bool true) ∧ Below w.heap.size w w' := by
  have h1 := fun w h h' => simulate_any A A2 c c2 xs gs fr days bn ba w h hnil h'
  have h2 := fun w h h' => simulateOf_any A A2 c c2 xs gs fr days bn ba w h hnil h'
  have hl := simulate_len xs gs fr days bn ba
  generalize simulate xs gs fr days bn ba = q at h1 h2 hl
  obtain ⟨⟨l1, l2⟩, r⟩ := q
  simp only at hl
  have H1 := hide h1
  have H2 := hide h2
  have HL1 := hide hl.1
  have HL2 := hide hl.2
  have HA := hide hA
  have HG := hide hG
  clear h1 h2 hl hA hG hnil
  go_enter Try.func8, Try.ntmps8
  go_wp2_with (first
    | (go_at_call 37; refine (H1.out _ (HA.out.alloc _) (HG.out.alloc _)).mono ?_; rintro e w' ⟨A3, c3, B3, d3, rfl, hS, hI, _, hb⟩; obtain ⟨os1, n1, rfl⟩ := below_plus hb; clear hb; have HS1 := hide hS; have HI1 := hide hI; clear hS hI)
    | (go_at_call 38; refine (H2.out _ ((HA.out.alloc _).plus _ _) ((HG.out.alloc _).plus _ _)).mono ?_; rintro e w' ⟨A4, c4, B4, d4, rfl, hS, hI, _, hb⟩; obtain ⟨os2, n2, rfl⟩ := below_plus hb; clear hb; have HS2 := hide hS; have HI2 := hide hI; clear hS hI)
    | (go_at_call 24; refine (equalSts_same _ _ _ _ _ _ (HS1.out.below (by repeat (first | exact Below.refl _ _ | refine bl_plus ?_ | refine bl_alloc ?_ _ | refine bl_drew ?_))) (HS2.out.below (by repeat (first | exact Below.refl _ _ | refine bl_plus ?_ | refine bl_alloc ?_ _ | refine bl_drew ?_))) HL1.out).mono ?_; rintro e w' ⟨rfl, hb⟩; obtain ⟨os3, n3, rfl⟩ := below_plus hb; clear hb)
    | (go_at_call 19; refine (equalInts_same _ _ _ _ _ _ (HI1.out.below (by repeat (first | exact Below.refl _ _ | refine bl_plus ?_ | refine bl_alloc ?_ _ | refine bl_drew ?_))) (HI2.out.below (by repeat (first | exact Below.refl _ _ | refine bl_plus ?_ | refine bl_alloc ?_ _ | refine bl_drew ?_))) HL2.out).mono ?_; rintro e w' ⟨rfl, hb⟩; obtain ⟨os4, n4, rfl⟩ := below_plus hb; clear hb))
  go_ret
  exact ⟨rfl, by repeat (first | exact Below.refl _ _ | refine bl_plus ?_ | refine bl_alloc ?_ _ | refine bl_drew ?_)⟩

set_option maxRecDepth 100000 in
theorem cardSimulates_lifted (os : Os) (started : os.Started) (H : Type) (enc : TypeId × Value → H) :
    ReturnsInHanded {} Try.checked os 8 .any (Rows.cardSimulatesSpec.pre6 enc Try.prog Try.f8 [] false) (Rows.cardSimulatesSpec.post enc Try.prog Try.f8 false true false false) := by
  refine law_lifted started (by kernel_rfl) Try.func8 rfl (by kernel_rfl) Try.underlying4 (fun t ht => ?_) (fun ds hds => ?_)
    (ChangeSpec.witness6 (enc := enc) (C := Try.checked) false ⟨#[], #[.slice none 0 0, .slice none 0 0, .int .i64 0, .int .i64 0, .agg #[.int .i64 0, .int .i64 0]], []⟩ 8 (by kernel_rfl) (by kernel_rfl) (by kernel_rfl) (by kernel_rfl)) ?_
  · rw [Try.params8] at ht
    simp only [List.mem_cons, List.not_mem_nil, or_false] at ht
    rcases ht with rfl | rfl | rfl | rfl | rfl <;> exact ⟨by kernel_rfl, of_decide_eq_true (by kernel_rfl)⟩
  · rw [Try.params8] at hds
    match ds, hds with
    | [d1, d2, d3, d4, d5], _ => rfl
  · intro W b0 args ds p hval hA hlt hsz
    rw [Try.params8] at hA hval
    obtain ⟨v0, v1, v2, v3, v4, d0, d1, d2, d3, d4, p0, p1, p2, p3, p4, rfl, rfl, rfl, h0, h1, h2, h3, h4⟩ := trodAll_five hA
    obtain ⟨A, xs, cap, rfl, _, _, hnil, hA'⟩ := open_states (hval 0 _ v0 rfl rfl) h0
    obtain ⟨B, gs, cap2, rfl, _, _, _, hB'⟩ := open_numbers (hval 1 _ v1 rfl rfl) h1
    obtain ⟨a, rfl, rfl, rfl, wa⟩ := open_int Try.underlying3 (hval 2 _ v2 rfl rfl) h2
    obtain ⟨b, rfl, rfl, rfl, wb⟩ := open_int Try.underlying3 (hval 3 _ v3 rfl rfl) h3
    obtain ⟨bn, ba, rfl⟩ := open_bounds2 (hval 4 _ v4 rfl rfl) h4
    exact cardSimulates_any A B cap cap2 xs gs a b bn ba W hA' hnil hB'

theorem cardSimulates_holds : Rows.CardSimulatesSaid :=
  OpenClaim.holds_of_wide 8 Try.f8 rfl rfl rfl rfl rfl rfl rfl ⟨rfl, rfl, rfl, rfl, rfl⟩ rfl rfl rfl rfl rfl (by kernel_rfl) Try.func8 (by kernel_rfl)
    (of_decide_eq_true (by kernel_rfl)) (by unfold Func.isWrapper; first | (rw [if_pos (by decide +kernel)]; kernel_rfl) | (rw [if_neg (by decide +kernel)]; exact ⟨rfl, rfl⟩))
    (fun os started H enc _ => cardSimulates_lifted os started H enc)

#print axioms cardSimulates_holds
end Go.Proofs.Ytokghdcfbbogdaa
