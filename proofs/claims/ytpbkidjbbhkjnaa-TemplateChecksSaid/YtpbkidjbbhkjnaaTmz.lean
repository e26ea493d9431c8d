/-
  PROVED: TemplateChecks returns true for every string, and turns nothing: CheckTemplate and Fields compute what the reference's do. No condition.
-/
import Derived.Test.YtpbkidjbbhkjnaaRows
import Derived.Test.YtpbkidjbbhkjnaaTmi
import Derived.Test.YtpbkidjbbhkjnaaRow
import Derived.ChangeMaps5
namespace Go.Proofs.Ytpbkidjbbhkjnaa
open Go.ChangeShapes Go.WideShapes Go.ChangeAt Go.RowKit Go.Sort
open Go.ChangeMaps (open_string shut_string)

/-- The cells of a row of strings. -/
theorem ownS_cells {w : World} {base g n c : Nat} {L : List (List UInt8)} (h : OwnK 1 9 w base (.slice (some ⟨g, 0, none⟩) n c) n (L.map encStr)) :
    n ≤ (L.map fun l => (⟨l.toArray⟩ : ByteArray)).length ∧ ∀ j, j < (L.map fun l => (⟨l.toArray⟩ : ByteArray)).length → w.cell? ⟨g, 0 + j, none⟩ = some (.string ((L.map fun l => (⟨l.toArray⟩ : ByteArray)).getD j ByteArray.empty)) := by
  obtain ⟨hl, A, c', hv, h1, h2, h3⟩ := h
  injection hv with e1 _ e3
  rw [List.length_map, Nat.mul_one] at hl
  refine ⟨by rw [List.length_map]; omega, fun j hj => ?_⟩
  rw [List.length_map] at hj
  rcases h3 with ⟨a, _⟩ | ⟨g', cur, a, hg, hb, h4, h5⟩
  · rw [← e1] at a; cases a
  · rw [← e1] at a
    obtain rfl : g = g' := by injection a with a; injection a
    rw [Nat.zero_add, cell_of_row w g j cur _ (0, 0) hb]
    have h6 : (cur.toList.take (n * 1))[j]? = (L.map encStr)[j]? := by rw [h5]
    rw [List.getElem?_take_of_lt (by omega), List.getElem?_map, List.getElem?_eq_getElem hj] at h6
    rw [← Array.getElem?_toList, h6, List.getD_eq_getElem?_getD, List.getElem?_map, List.getElem?_eq_getElem hj]
    rfl
theorem equalS_any (w : World) (b1 b2 n c d : Nat) (A B : Option Addr) (L : List (List UInt8)) (h1 : OwnK 1 9 w b1 (.slice A n c) n (L.map encStr)) (h2 : OwnK 1 9 w b2 (.slice B n d) n (L.map encStr)) :
    Calls Try.prog 10 #[.slice A n c, .slice B n d] w fun e w' => e = .returned (.bool true) ∧ Below w.heap.size w w' := by
  have k1 := h1.clip
  have k2 := h2.clip
  have hbig : n ≤ 9223372036854775807 := by have := k1.2.1; have := k1.2.2.1; unfold maxLen at this; omega
  by_cases h0 : n = 0
  · subst h0
    refine (Go.Proofs.Any.slices_Equal_string_empty Try.eqL A B c 0 d w hbig).mono ?_
    rintro e w' ⟨rfl, rfl⟩
    exact ⟨rfl, Below.refl _ _⟩
  · cases A with
    | none => have := k1.2.2.2.1 rfl; have := k1.2.1; omega
    | some a =>
      cases B with
      | none => have := k2.2.2.2.1 rfl; have := k2.2.1; omega
      | some b =>
        obtain ⟨g, rfl⟩ := k1.2.2.2.2 a rfl
        obtain ⟨g2, rfl⟩ := k2.2.2.2.2 b rfl
        obtain ⟨l1, q1⟩ := ownS_cells h1
        obtain ⟨l2, q2⟩ := ownS_cells h2
        refine (Go.Proofs.Any.slices_Equal_string Try.eqL g 0 n c g2 0 n d _ _ w l1 l2 hbig hbig q1 q2).mono ?_
        rintro e w' ⟨rfl, q, rfl⟩
        exact ⟨by rw [decide_eq_true rfl], (by repeat (first | exact Below.refl _ _ | refine bl_plus ?_ | refine bl_alloc ?_ _ | refine bl_drew ?_ | refine bl_drewN ?_ _))⟩

/-- The names that are handed back: none where the template is wrong. -/
def fsL (s : ByteArray) : List (List UInt8) := if (tq s).2 = 0 then nmList s else []
theorem fsOut {s : ByteArray} {w : World} {e : Ending} {w' : World} (h : FsOut s w e w') : Below w.heap.size w w' ∧ ∃ A c, e = .returned (.tuple #[.slice A (fsL s).length c, .int .i64 ((tq s).2 : Nat)]) ∧ OwnK 1 9 w' w.heap.size (.slice A (fsL s).length c) (fsL s).length ((fsL s).map encStr) := by
  obtain ⟨hb, h | ⟨hq, A, c, rfl, ho⟩⟩ := h
  · obtain ⟨hq, rfl⟩ := h
    have hf : fsL s = [] := if_neg hq
    rw [hf]
    exact ⟨hb, none, 0, rfl, OwnK.empty⟩
  · have hf : fsL s = nmList s := if_pos (by rw [hq])
    rw [hf, hq]
    exact ⟨hb, A, c, rfl, ho⟩
theorem tfOut {s : ByteArray} {w : World} {e : Ending} {w' : World} (h : TfOut s w e w') : Below w.heap.size w w' ∧ ∃ A m c, e = .returned (.tuple #[.slice A m c, .int .i64 ((tq s).1 : Nat), .int .i64 ((tq s).2 : Nat)]) := by
  obtain ⟨hb, h | ⟨hq, A, c, ps, rfl, _⟩⟩ := h
  · exact ⟨hb, none, 0, 0, h.2⟩
  · rw [hq]
    exact ⟨hb, A, ps.length, c, rfl⟩

set_option maxHeartbeats 3200000 in
set_option maxRecDepth 100000 in
theorem templateChecks_any (s : ByteArray) (w : World) :
    Calls Try.prog 3 #[.string s] w fun e w' => e = .returned (.bool true) ∧ Below w.heap.size w w' := by
  have H1 := hide (fun w => checkTemplate_any s w)
  have H2 := hide (fun w => (templateFault_any s w).mono (fun _ _ => tfOut))
  have H3 := hide (fun w => (fields_any s w).mono (fun _ _ => fsOut))
  have H4 := hide (fun w => (fieldsOf_any s w).mono (fun _ _ => fsOut))
  unfold CtOut at H1
  generalize tq s = R at *
  generalize fsL s = L at *
  obtain ⟨q, r⟩ := R
  dsimp only at H1 H2 H3 H4
  go_enter Try.func3, Try.ntmps3
  go_wp2_with (first
    | (go_at_call 6; refine (H1.out _).mono ?_; rintro e w' ⟨rfl, hbl⟩; obtain ⟨os1, n1, rfl⟩ := below_plus hbl; clear hbl)
    | (go_at_call 7; refine (H2.out _).mono ?_; rintro e w' ⟨hbl, A2, m2, c2, rfl⟩; obtain ⟨os2, n2, rfl⟩ := below_plus hbl; clear hbl)
    | (go_at_call 8; refine (H3.out _).mono ?_; rintro e w' ⟨hbl, A3, c3, rfl, ho⟩; obtain ⟨os3, n3, rfl⟩ := below_plus hbl; have HO3 := hide (ho.low (Nat.zero_le _)); clear hbl ho)
    | (go_at_call 9; refine (H4.out _).mono ?_; rintro e w' ⟨hbl, A4, c4, rfl, ho⟩; obtain ⟨os4, n4, rfl⟩ := below_plus hbl; have HO4 := hide (ho.low (Nat.zero_le _)); clear hbl ho)
    | (go_at_call 10; go_loud (refine (equalS_any _ 0 0 _ _ _ _ _ L (by repeat (first | with_reducible exact HO3.out | with_reducible refine OwnK.alloc ?_ _ | with_reducible refine OwnK.plus ?_ _ _ | with_reducible refine OwnK.drew ?_)) (by repeat (first | with_reducible exact HO4.out | with_reducible refine OwnK.alloc ?_ _ | with_reducible refine OwnK.plus ?_ _ _ | with_reducible refine OwnK.drew ?_))).mono ?_; rintro e w' ⟨rfl, hbl⟩; obtain ⟨os5, n5, rfl⟩ := below_plus hbl; clear hbl)))
  go_ret
  exact ⟨rfl, (by repeat (first | exact Below.refl _ _ | refine bl_plus ?_ | refine bl_alloc ?_ _ | refine bl_drew ?_ | refine bl_drewN ?_ _))⟩

set_option maxRecDepth 100000 in
theorem templateChecks_lifted (os : Os) (started : os.Started) (H : Type) (enc : TypeId × Value → H) :
    ReturnsInHanded {} Try.checked os 3 .any (Rows.templateChecksSpec.pre6 enc Try.prog Try.f3 [] false) (Rows.templateChecksSpec.post enc Try.prog Try.f3 false true false false) := by
  refine law_lifted started (by kernel_rfl) Try.func3 rfl (by kernel_rfl) Try.underlying4 (fun t ht => ?_) (fun ds hds => ?_)
    (ChangeSpec.witness6 (enc := enc) (C := Try.checked) false ⟨#[], #[.string .empty], []⟩ 8 (by kernel_rfl) (by kernel_rfl) (by kernel_rfl) (by kernel_rfl)) ?_
  · rw [Try.params3] at ht
    simp only [List.mem_cons, List.not_mem_nil, or_false] at ht
    subst ht
    exact ⟨by kernel_rfl, of_decide_eq_true (by kernel_rfl)⟩
  · rw [Try.params3] at hds
    match ds, hds with
    | [d1], _ => rfl
  · intro W b0 args ds p hval hA hlt hsz
    rw [Try.params3] at hA hval
    obtain ⟨v0, d0, rfl, rfl, h0⟩ := trodAll_one hA
    obtain ⟨s, rfl, rfl, rfl, ws⟩ := open_string Try.underlying9 (hval 0 _ v0 rfl rfl) h0
    exact templateChecks_any s W

set_option maxRecDepth 100000 in
theorem templateChecks_holds : Rows.TemplateChecksSaid :=
  OpenClaim.holds_of_wide 3 Try.f3 rfl rfl rfl rfl rfl rfl rfl ⟨rfl, rfl, rfl, rfl, rfl⟩ rfl rfl rfl rfl rfl (by kernel_rfl) Try.func3 (by kernel_rfl)
    (of_decide_eq_true (by kernel_rfl)) (by unfold Func.isWrapper; first | (rw [if_pos (by decide +kernel)]; kernel_rfl) | (rw [if_neg (by decide +kernel)]; exact ⟨rfl, rfl⟩))
    (fun os started H enc _ => templateChecks_lifted os started H enc)

#print axioms templateChecks_holds
end Go.Proofs.Ytpbkidjbbhkjnaa
