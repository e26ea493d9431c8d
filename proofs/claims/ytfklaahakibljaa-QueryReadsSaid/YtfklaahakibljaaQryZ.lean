/-
  PROVED: QueryReads returns true for every string, and turns nothing: ReadQuery computes what the reference's does. No condition.
-/
import Derived.Test.YtfklaahakibljaaRows
import Derived.Test.YtfklaahakibljaaQryK
import Derived.Test.YtfklaahakibljaaRow
import Derived.ChangeMaps5
namespace Go.Proofs.Ytfklaahakibljaa
open Go.ChangeShapes Go.WideShapes Go.ChangeAt Go.RowKit
open Go.ChangeMaps (open_string shut_string)

set_option maxHeartbeats 3200000 in
set_option maxRecDepth 100000 in
theorem queryReads_any (s : ByteArray) (w : World) (hs : s.size ≤ maxLen) :
    Calls Try.prog 5 #[.string s] w fun e w' => e = .returned (.bool true) ∧ Below w.heap.size w w' := by
  have h1 := fun w => readQuery_any s w hs
  have h2 := fun w => readQueryOf_any s w hs
  have hb := ansR_ok s
  generalize ansR s = q at *
  obtain ⟨cs, q1, q2⟩ := q
  have h3 := fun A B c d w hA hB => alikeQuery_same A B c d cs w hA hB (by have := hb.1; simp only at this; omega) hb.2
  have H1 := hide h1
  have H2 := hide h2
  have H3 := hide h3
  clear h1 h2 h3 hb hs
  go_enter Try.func5, Try.ntmps5
  go_wp2_with (first
    | (go_at_call 24; refine (H1.out _).mono ?_; rintro e w' ⟨A1, c1, rfl, hr, hbl⟩; obtain ⟨os1, n1, rfl⟩ := below_plus hbl; clear hbl; have HR1 := hide hr; clear hr)
    | (go_at_call 25; refine (H2.out _).mono ?_; rintro e w' ⟨A2, c2, rfl, hr, hbl⟩; obtain ⟨os2, n2, rfl⟩ := below_plus hbl; clear hbl; have HR2 := hide hr; clear hr)
    | (go_at_call 26; refine (H3.out _ _ _ _ _ (HR1.out.below (by repeat (first | exact Below.refl _ _ | refine bl_plus ?_ | refine bl_alloc ?_ _ | refine bl_drew ?_))) (HR2.out.below (by repeat (first | exact Below.refl _ _ | refine bl_plus ?_ | refine bl_alloc ?_ _ | refine bl_drew ?_)))).mono ?_; rintro e w' ⟨rfl, hbl⟩; obtain ⟨os5, n5, rfl⟩ := below_plus hbl; clear hbl))
  go_ret
  exact ⟨rfl, by repeat (first | exact Below.refl _ _ | refine bl_plus ?_ | refine bl_alloc ?_ _ | refine bl_drew ?_)⟩

set_option maxRecDepth 100000 in
theorem queryReads_lifted (os : Os) (started : os.Started) (H : Type) (enc : TypeId × Value → H) :
    ReturnsInHanded {} Try.checked os 5 .any (Rows.queryReadsSpec.pre6 enc Try.prog Try.f5 [] false) (Rows.queryReadsSpec.post enc Try.prog Try.f5 false true false false) := by
  refine law_lifted started (by kernel_rfl) Try.func5 rfl (by kernel_rfl) Try.underlying4 (fun t ht => ?_) (fun ds hds => ?_)
    (ChangeSpec.witness6 (enc := enc) (C := Try.checked) false ⟨#[], #[.string .empty], []⟩ 8 (by kernel_rfl) (by kernel_rfl) (by kernel_rfl) (by kernel_rfl)) ?_
  · rw [Try.params5] at ht
    simp only [List.mem_cons, List.not_mem_nil, or_false] at ht
    subst ht
    exact ⟨by kernel_rfl, of_decide_eq_true (by kernel_rfl)⟩
  · rw [Try.params5] at hds
    match ds, hds with
    | [d1], _ => rfl
  · intro W b0 args ds p hval hA hlt hsz
    rw [Try.params5] at hA hval
    obtain ⟨v0, d0, rfl, rfl, h0⟩ := trodAll_one hA
    obtain ⟨s, rfl, rfl, rfl, ws⟩ := open_string Try.underlying9 (hval 0 _ v0 rfl rfl) h0
    exact queryReads_any s W ws

set_option maxRecDepth 100000 in
theorem queryReads_holds : Rows.QueryReadsSaid :=
  OpenClaim.holds_of_wide 5 Try.f5 rfl rfl rfl rfl rfl rfl rfl ⟨rfl, rfl, rfl, rfl, rfl⟩ rfl rfl rfl rfl rfl (by kernel_rfl) Try.func5 (by kernel_rfl)
    (of_decide_eq_true (by kernel_rfl)) (by unfold Func.isWrapper; first | (rw [if_pos (by decide +kernel)]; kernel_rfl) | (rw [if_neg (by decide +kernel)]; exact ⟨rfl, rfl⟩))
    (fun os started H enc _ => queryReads_lifted os started H enc)

#print axioms queryReads_holds
end Go.Proofs.Ytfklaahakibljaa
