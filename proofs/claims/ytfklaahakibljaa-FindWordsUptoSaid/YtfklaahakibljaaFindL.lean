/-
  THE LAW FindWords, WHERE WHAT IT READS IS SMALL.
-/
import Derived.Test.YtfklaahakibljaaWordE
import Derived.Test.YtfklaahakibljaaDistE
import Derived.Test.YtfklaahakibljaaRowU
import Derived.ChangeMaps5
namespace Go.Proofs.Ytfklaahakibljaa
open Go.ChangeShapes Go.WideShapes Go.ChangeAt Go.RowKit
open Go.ChangeMaps (open_string shut_string)

theorem wordsF_few (s : ByteArray) : ∀ (f i : Nat), (wordsF s f i).length ≤ f
  | 0, i => Nat.le_refl _
  | f + 1, i => by
    rw [wordsF]
    split
    · have h := wordsF_few s f (max (wEnd s i) (i + 1))
      have h2 : (wdHere s i (wEnd s i)).length ≤ 1 := by unfold wdHere; split <;> simp
      rw [List.length_append]; omega
    · simp
theorem wordsAt_few (s : ByteArray) : (wordsAt s 0).length ≤ s.size := wordsF_few s s.size 0

set_option maxHeartbeats 3200000 in
set_option maxRecDepth 100000 in
theorem findWords_any (a b : ByteArray) (most : Int) (w : World) (ha : a.size ≤ 1048576) (hb : b.size ≤ 1048576) :
    Calls Try.prog 4 #[.string a, .string b, .int .i64 most] w fun e w' => e = .returned (.bool true) ∧ Below w.heap.size w w' := by
  have H1 := hide (fun w => distance_any a b most w (by omega) (by omega))
  have H2 := hide (fun w => distanceOf_any a b most w (by omega) (by omega))
  have H3 := hide (fun w => near_any a b w (by omega) (by omega))
  have H4 := hide (fun w => nearOf_any a b w (by omega) (by omega))
  have H5 := hide (fun w => words_any a w (by omega))
  have H6 := hide (fun w => wordsOf_reads a w (by omega))
  have hf := wordsAt_few a
  have H7 := hide (fun A B c c' w hA hB => equalWds_same A B c c' (wordsAt a 0) w hA hB (by omega))
  clear hf
  generalize distR a b most = q at *
  generalize (distR a b (slackR a.size)).2 = r at *
  generalize wordsAt a 0 = l at *
  obtain ⟨q1, q2⟩ := q
  go_enter Try.func4, Try.ntmps4
  go_wp2_with (first
    | (go_at_call 17; refine (H1.out _).mono ?_; rintro e w' ⟨rfl, hbl⟩; obtain ⟨os1, n1, rfl⟩ := below_plus hbl; clear hbl)
    | (go_at_call 18; refine (H2.out _).mono ?_; rintro e w' ⟨rfl, hbl⟩; obtain ⟨os2, n2, rfl⟩ := below_plus hbl; clear hbl)
    | (go_at_call 19; refine (H3.out _).mono ?_; rintro e w' ⟨rfl, hbl⟩; obtain ⟨os3, n3, rfl⟩ := below_plus hbl; clear hbl)
    | (go_at_call 20; refine (H4.out _).mono ?_; rintro e w' ⟨rfl, hbl⟩; obtain ⟨os4, n4, rfl⟩ := below_plus hbl; clear hbl)
    | (go_at_call 22; refine (H5.out _).mono ?_; rintro e w' ⟨A1, c1, rfl, hr, hbl⟩; obtain ⟨os5, n5, rfl⟩ := below_plus hbl; clear hbl; have HR1 := hide hr; clear hr)
    | (go_at_call 23; refine (H6.out _).mono ?_; rintro e w' ⟨A2, c2, rfl, hr, hbl⟩; obtain ⟨os6, n6, rfl⟩ := below_plus hbl; clear hbl; have HR2 := hide hr; clear hr)
    | (go_at_call 21; refine (H7.out _ _ _ _ _ (HR1.out.below (by repeat (first | exact Below.refl _ _ | refine bl_plus ?_ | refine bl_alloc ?_ _ | refine bl_drew ?_))) (HR2.out.below (by repeat (first | exact Below.refl _ _ | refine bl_plus ?_ | refine bl_alloc ?_ _ | refine bl_drew ?_)))).mono ?_; rintro e w' ⟨rfl, hbl⟩; obtain ⟨os7, n7, rfl⟩ := below_plus hbl; clear hbl))
  go_ret
  exact ⟨rfl, by repeat (first | exact Below.refl _ _ | refine bl_plus ?_ | refine bl_alloc ?_ _ | refine bl_drew ?_)⟩

theorem small_two {H : Type} {a b : ByteArray} {n : Int} (hk : Rows.uptoSmall H [.lit (.string a.data.toList), .lit (.string b.data.toList), .lit (.int .i64 n)] = true) : a.size ≤ 1048576 ∧ b.size ≤ 1048576 := by
  have h : Rows.uptoBulkAll [DataW.lit (H := H) (.string a.data.toList), .lit (.string b.data.toList), .lit (.int .i64 n)] ≤ 1048576 := of_decide_eq_true hk
  simp only [Rows.uptoBulkAll, Rows.uptoBulk] at h
  have e : a.data.toList.length = a.size := by rw [Array.length_toList]; rfl
  have e2 : b.data.toList.length = b.size := by rw [Array.length_toList]; rfl
  omega

set_option maxRecDepth 100000 in
theorem findWords_lifted (os : Os) (started : os.Started) (H : Type) (enc : TypeId × Value → H) (Fi : Stop.Interp) :
    ReturnsInHanded {} Try.checked os 4 .any ((Rows.OpenSpec.upto Rows.findWordsSpec).pre6 enc Try.prog Try.f4 [] false) (((Rows.OpenSpec.upto Rows.findWordsSpec).at Fi).post enc Try.prog Try.f4 false true false false) := by
  refine law_lifted_upto started (by kernel_rfl) Try.func4 rfl (by kernel_rfl) Try.underlying4 (fun t ht => ?_) (fun ds hds => ?_)
    (OpenSpec.witness (enc := enc) (C := Try.checked) (s := Rows.OpenSpec.upto Rows.findWordsSpec) (k := Rows.uptoSmall) rfl false ⟨#[], #[.string .empty, .string .empty, .int .i64 0], []⟩ 8 (by kernel_rfl) (by kernel_rfl) (by kernel_rfl)
      (x := ([.lit (.string []), .lit (.string []), .lit (.int .i64 0)], [], [])) (by kernel_rfl) rfl (by kernel_rfl)) ?_
  · rw [Try.params4] at ht
    simp only [List.mem_cons, List.not_mem_nil, or_false] at ht
    rcases ht with rfl | rfl | rfl <;> exact ⟨by kernel_rfl, of_decide_eq_true (by kernel_rfl)⟩
  · rw [Try.params4] at hds
    match ds, hds with
    | [d1, d2, d3], _ => rfl
  · intro W b0 args ds p hval hA hlt hk
    rw [Try.params4] at hA hval
    obtain ⟨v0, v1, v2, d0, d1, d2, p0, p1, p2, rfl, rfl, rfl, h0, h1, h2⟩ := trodAll_three hA
    obtain ⟨a, rfl, rfl, rfl, ma⟩ := open_string Try.underlying9 (hval 0 _ v0 rfl rfl) h0
    obtain ⟨b, rfl, rfl, rfl, mb⟩ := open_string Try.underlying9 (hval 1 _ v1 rfl rfl) h1
    obtain ⟨most, rfl, rfl, rfl, wm⟩ := open_int Try.underlying3 (hval 2 _ v2 rfl rfl) h2
    exact findWords_any a b most W (small_two hk).1 (small_two hk).2

set_option maxRecDepth 100000 in
theorem findWords_holds : Rows.FindWordsUptoSaid :=
  OpenClaim.holds_of_cond 4 Try.f4 rfl rfl rfl rfl rfl rfl rfl ⟨rfl, rfl, rfl, rfl, rfl⟩ rfl rfl rfl rfl rfl (by kernel_rfl) Try.func4 (by kernel_rfl)
    (of_decide_eq_true (by kernel_rfl)) (by unfold Func.isWrapper; first | (rw [if_pos (by decide +kernel)]; kernel_rfl) | (rw [if_neg (by decide +kernel)]; exact ⟨rfl, rfl⟩))
    (fun os started H enc _ F => findWords_lifted os started H enc F)

#print axioms findWords_holds
end Go.Proofs.Ytfklaahakibljaa
