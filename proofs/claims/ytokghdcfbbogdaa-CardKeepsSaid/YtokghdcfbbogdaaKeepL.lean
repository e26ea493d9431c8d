/-
  PROVED: CardKeeps returns true for every list of states and list of cards, and turns nothing: Keep and CheckStates compute what the reference's do. No condition.
-/
import Derived.Test.YtokghdcfbbogdaaRows
import Derived.Test.YtokghdcfbbogdaaKeepD
import Derived.Test.YtokghdcfbbogdaaOpenc
namespace Go.Proofs.Ytokghdcfbbogdaa
open Go.ChangeShapes Go.WideShapes Go.ChangeAt Go.Deep Go.RowKit

section
variable {H : Type} {enc : TypeId × Value → H} {w : World} {base : Nat} {held : Bool}
set_option maxRecDepth 100000 in
/-- A list of cards that comes in. -/
theorem open_cards {v : Value} {d : DataW H} {ps : List MemPlace} {r : Reach} {b0 : Nat} (hv : Value.okWide Try.prog w r b0 67 v) (h : DataW.Trod enc Try.prog w base (fun _ => true) held 67 v d ps) :
    ∃ (A : Option Addr) (cs : List Cd) (cap : Nat), v = .slice A cs.length cap ∧ cs.length ≤ cap ∧ cap ≤ maxLen ∧ CdsAt w A cs := by
  obtain ⟨A, len, cap, rfl⟩ := okWide_slice Try.underlying67 hv
  obtain ⟨fuel, hf⟩ := h
  rcases open_slice_fields Try.underlying67 Try.underlying108 (by kernel_rfl) (by kernel_rfl) hf with ⟨hcs, _⟩ | ⟨a, len', cap', m, D, Pl, hcs, _, hl, hm, hmm, _, hi⟩
  · simp [Value.cells] at hcs
    obtain ⟨rfl, rfl, rfl⟩ := hcs
    exact ⟨none, [], 0, rfl, Nat.le_refl _, by simp [maxLen], fun h => absurd h (by simp)⟩
  · simp [Value.cells] at hcs
    obtain ⟨rfl, rfl, rfl⟩ := hcs
    simp only [if_true] at hmm
    have hcell : ∀ i, i < len → ∃ c : Cd, w.cell? (a.add (i * 4 + 0)) = some (.int .i64 c.bl) ∧ w.cell? (a.add (i * 4 + 1)) = some (.int .i64 c.no) ∧ w.cell? (a.add (i * 4 + 2)) = some (.string c.fr) ∧ w.cell? (a.add (i * 4 + 3)) = some (.string c.bk) := by
      intro i hi'
      obtain ⟨ys, n, _, _, _, hf'⟩ := hi i (by omega)
      obtain ⟨u0, y0, e0, _, t0⟩ := hf' 0 _ rfl
      obtain ⟨u1, y1, e1, _, t1⟩ := hf' 1 _ rfl
      obtain ⟨u2, y2, e2, _, t2⟩ := hf' 2 _ rfl
      obtain ⟨u3, y3, e3, _, t3⟩ := hf' 3 _ rfl
      obtain ⟨k0, q0, _, _⟩ := DataW.trod_int Try.underlying3 t0
      obtain ⟨k1, q1, _, _⟩ := DataW.trod_int Try.underlying3 t1
      obtain ⟨k2, q2, _, _⟩ := DataW.trod_string Try.underlying9 t2
      obtain ⟨k3, q3, _, _⟩ := DataW.trod_string Try.underlying9 t3
      simp only [List.cons.injEq, and_true] at q0 q1 q2 q3
      subst q0 q1 q2 q3
      exact ⟨⟨k0, k1, k2, k3⟩, e0, e1, e2, e3⟩
    by_cases hlen : 0 < len
    · obtain ⟨c0, h0, _⟩ := hcell 0 hlen
      have hspot : a.spot = none := by simpa [Addr.add] using World.cell?_spot h0
      obtain ⟨b, off, spot⟩ := a
      simp only at hspot
      subst hspot
      have hb : b < w.heap.size := by
        have := lt_of_cell h0
        simpa [Addr.add] using this
      obtain ⟨l, hl2, hq⟩ := list_of (Q := fun i (c : Cd) => w.cell? ⟨b, off + i * 4, none⟩ = some (.int .i64 c.bl) ∧ w.cell? ⟨b, off + i * 4 + 1, none⟩ = some (.int .i64 c.no) ∧ w.cell? ⟨b, off + i * 4 + 2, none⟩ = some (.string c.fr) ∧ w.cell? ⟨b, off + i * 4 + 3, none⟩ = some (.string c.bk)) len (fun i hi' => by
        obtain ⟨c, e0, e1, e2, e3⟩ := hcell i hi'
        rw [add_plain] at e0 e1 e2 e3
        exact ⟨c, e0, e1, e2, e3⟩)
      subst hl2
      exact ⟨_, l, cap, rfl, hl, hm, fun _ => ⟨b, off, rfl, hb, hq⟩⟩
    · have : len = 0 := by omega
      subst this
      exact ⟨some a, [], cap, rfl, hl, hm, fun h => absurd h (by simp)⟩
end

theorem keep_len (xs : List St) (cs : List Key) : (keep xs cs).1.1.length ≤ maxLen ∧ (keep xs cs).1.2.length ≤ maxLen := by
  unfold keep
  split
  · rename_i h
    have hl := len_of_statesErr h
    split
    · simp [maxLen]
    · split
      · rename_i out kv r hk
        have h1 := keepGo_len xs cs [] [] out kv r hk
        have h2 := sortSt_len out
        have h3 := goneOf_len kv xs
        simp only [List.length_nil] at h1
        unfold maxLen; simp only []; omega
      · simp [maxLen]
  · simp [maxLen]

set_option maxHeartbeats 3200000 in
set_option maxRecDepth 100000 in
theorem cardKeeps_any (A B : Option Addr) (c c2 : Nat) (xs : List St) (cs : List Cd) (w : World) (hA : StsAt w A xs) (hB : CdsAt w B cs) :
    Calls Try.prog 11 #[.slice A xs.length c, .slice B cs.length c2] w fun e w' => e = .returned (.bool true) ∧ Below w.heap.size w w' := by
  have h1 := fun w h h' => keepF_any A B c c2 xs cs w h h'
  have h2 := fun w h h' => keepOf_any A B c c2 xs cs w h h'
  have h3 := fun w h => checkStates_any A c xs w h
  have h4 := fun w h => statesFault_any A c xs w h
  have hl := keep_len xs (cs.map Cd.key)
  generalize keep xs (cs.map Cd.key) = q at h1 h2 hl
  generalize statesErr xs = s at h3 h4
  obtain ⟨⟨l1, l2⟩, r⟩ := q
  simp only at hl
  have H1 := hide h1
  have H2 := hide h2
  have H3 := hide h3
  have H4 := hide h4
  have HL1 := hide hl.1
  have HL2 := hide hl.2
  have HA := hide hA
  have HB := hide hB
  clear h1 h2 h3 h4 hl hA hB
  go_enter Try.func11, Try.ntmps11
  go_wp2_with (first
    | (go_at_call 46; refine (H1.out _ HA.out HB.out).mono ?_; rintro e w' ⟨A3, c3, B3, d3, rfl, hS, hI, hb⟩; obtain ⟨os1, n1, rfl⟩ := below_plus hb; clear hb; have HS1 := hide hS; have HI1 := hide hI; clear hS hI)
    | (go_at_call 47; refine (H2.out _ (HA.out.below (by repeat (first | exact Below.refl _ _ | refine bl_plus ?_ | refine bl_alloc ?_ _ | refine bl_drew ?_))) (HB.out.below (by repeat (first | exact Below.refl _ _ | refine bl_plus ?_ | refine bl_alloc ?_ _ | refine bl_drew ?_)))).mono ?_; rintro e w' ⟨A4, c4, B4, d4, rfl, hS, hI, hb⟩; obtain ⟨os2, n2, rfl⟩ := below_plus hb; clear hb; have HS2 := hide hS; have HI2 := hide hI; clear hS hI)
    | (go_at_call 48; refine (H3.out _ (HA.out.below (by repeat (first | exact Below.refl _ _ | refine bl_plus ?_ | refine bl_alloc ?_ _ | refine bl_drew ?_)))).mono ?_; rintro e w' ⟨rfl, hb⟩; obtain ⟨os5, n5, rfl⟩ := below_plus hb; clear hb)
    | (go_at_call 49; refine (H4.out _ (HA.out.below (by repeat (first | exact Below.refl _ _ | refine bl_plus ?_ | refine bl_alloc ?_ _ | refine bl_drew ?_)))).mono ?_; rintro e w' ⟨rfl, hb⟩; obtain ⟨os6, n6, rfl⟩ := below_plus hb; clear hb)
    | (go_at_call_of 24 (Value.slice A3 l1.length c3); refine (equalSts_same _ _ _ _ _ _ (HS1.out.below (by repeat (first | exact Below.refl _ _ | refine bl_plus ?_ | refine bl_alloc ?_ _ | refine bl_drew ?_))) (HS2.out.below (by repeat (first | exact Below.refl _ _ | refine bl_plus ?_ | refine bl_alloc ?_ _ | refine bl_drew ?_))) HL1.out).mono ?_; rintro e w' ⟨rfl, hb⟩; obtain ⟨os3, n3, rfl⟩ := below_plus hb; clear hb)
    | (go_at_call_of 24 (Value.slice B3 l2.length d3); refine (equalSts_same _ _ _ _ _ _ (HI1.out.below (by repeat (first | exact Below.refl _ _ | refine bl_plus ?_ | refine bl_alloc ?_ _ | refine bl_drew ?_))) (HI2.out.below (by repeat (first | exact Below.refl _ _ | refine bl_plus ?_ | refine bl_alloc ?_ _ | refine bl_drew ?_))) HL2.out).mono ?_; rintro e w' ⟨rfl, hb⟩; obtain ⟨os4, n4, rfl⟩ := below_plus hb; clear hb))
  go_ret
  exact ⟨rfl, (by repeat (first | exact Below.refl _ _ | refine bl_plus ?_ | refine bl_alloc ?_ _ | refine bl_drew ?_))⟩

set_option maxRecDepth 100000 in
theorem cardKeeps_lifted (os : Os) (started : os.Started) (H : Type) (enc : TypeId × Value → H) :
    ReturnsInHanded {} Try.checked os 11 .any (Rows.cardKeepsSpec.pre6 enc Try.prog Try.f11 [] false) (Rows.cardKeepsSpec.post enc Try.prog Try.f11 false true false false) := by
  refine law_lifted started (by kernel_rfl) Try.func11 rfl (by kernel_rfl) Try.underlying4 (fun t ht => ?_) (fun ds hds => ?_)
    (ChangeSpec.witness6 (enc := enc) (C := Try.checked) false ⟨#[], #[.slice none 0 0, .slice none 0 0], []⟩ 8 (by kernel_rfl) (by kernel_rfl) (by kernel_rfl) (by kernel_rfl)) ?_
  · rw [Try.params11] at ht
    simp only [List.mem_cons, List.not_mem_nil, or_false] at ht
    rcases ht with rfl | rfl <;> exact ⟨by kernel_rfl, of_decide_eq_true (by kernel_rfl)⟩
  · rw [Try.params11] at hds
    match ds, hds with
    | [d1, d2], _ => rfl
  · intro W b0 args ds p hval hA hlt hsz
    rw [Try.params11] at hA hval
    obtain ⟨v0, v1, d0, d1, p0, p1, rfl, rfl, rfl, h0, h1⟩ := trodAll_two hA
    obtain ⟨A, xs, cap, rfl, _, _, _, hA'⟩ := open_states (hval 0 _ v0 rfl rfl) h0
    obtain ⟨B, cs, cap2, rfl, _, _, hB'⟩ := open_cards (hval 1 _ v1 rfl rfl) h1
    exact cardKeeps_any A B cap cap2 xs cs W hA' hB'

theorem cardKeeps_holds : Rows.CardKeepsSaid :=
  OpenClaim.holds_of_wide 11 Try.f11 rfl rfl rfl rfl rfl rfl rfl ⟨rfl, rfl, rfl, rfl, rfl⟩ rfl rfl rfl rfl rfl (by kernel_rfl) Try.func11 (by kernel_rfl)
    (of_decide_eq_true (by kernel_rfl)) (by unfold Func.isWrapper; first | (rw [if_pos (by decide +kernel)]; kernel_rfl) | (rw [if_neg (by decide +kernel)]; exact ⟨rfl, rfl⟩))
    (fun os started H enc _ => cardKeeps_lifted os started H enc)

#print axioms cardKeeps_holds
end Go.Proofs.Ytokghdcfbbogdaa
