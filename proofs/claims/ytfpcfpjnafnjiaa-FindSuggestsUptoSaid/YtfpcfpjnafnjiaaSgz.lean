/-
  THE LAW FindSuggests, WHERE WHAT IT READS IS SMALL: Suggest returns what the reference returns, with the same errors; the arguments read as they did.
-/
import Derived.Test.YtfpcfpjnafnjiaaSgp
import Derived.Test.YtfpcfpjnafnjiaaSgq
import Derived.ChangeMaps5
set_option linter.all false
namespace Go.Proofs.Ytfpcfpjnafnjiaa
open Go.ChangeShapes Go.WideShapes Go.ChangeAt Go.RowKit
open Go.ChangeMaps (open_string shut_string)

set_option maxHeartbeats 800000 in
set_option maxRecDepth 100000 in
theorem equalStr_same (A B : Option Addr) (c c' : Nat) (xs : List ByteArray) (w : World) (hA : EAt sEnc 1 w A xs) (hB : EAt sEnc 1 w B xs) (hm : xs.length ≤ 2000000) :
    Calls Try.prog 6 #[.slice A xs.length c, .slice B xs.length c'] w fun e w' => e = .returned (.bool true) ∧ Below w.heap.size w w' := by
  have HA := hide hA
  have HB := hide hB
  clear hA hB
  go_enter Try.func6, Try.ntmps6
  go_wp2
  go_loopw [13] (fun i wr => ∃ (k n : Nat), k ≤ xs.length ∧ i = .int .i64 k ∧ wr = w.drewN n) (fun i _ => xs.length - (intOf i).toNat)
  case atStart => exact ⟨0, 0, Nat.zero_le _, rfl, rfl⟩
  case round =>
    obtain ⟨k, n, hk, rfl, rfl⟩ := hrel
    by_cases hlt : k < xs.length
    · obtain ⟨b, off, rfl, hb, hcell⟩ := HA.out (by omega)
      obtain ⟨b', off', rfl, hb', hcell'⟩ := HB.out (by omega)
      have c0 := hcell k hlt 0 (by decide)
      have d0 := hcell' k hlt 0 (by decide)
      simp only [Nat.mul_one, Nat.add_zero, sEnc, List.getElem?_cons_zero] at c0 d0
      generalize xs[k] = x at c0 d0
      clear hcell hcell'
      have i1 : (k : Int) < (xs.length : Int) := by omega
      go_wp2
      go_quiet (fail)
      go_wp2
      go_roundw
      case rel => exact ⟨k + 1, _, hlt, by go_num, rfl⟩
      case measure => simp [intOf]; omega
    · have hkl : k = xs.length := by omega
      go_wp2
      go_returns
      exact ⟨rfl, bl_drewN (Below.refl _ _) _⟩

theorem sugWords_same {E : List En} {T : List Te} {word : ByteArray} {m : Int} (hs : SizedT T) : sugWords sugP E T word m = sugWords sugR E T word m := by
  unfold sugWords
  by_cases h : sugErr E T word m = 0
  · rw [if_pos h, if_pos h]
    have h0 : ixErr E T = 0 := by
      unfold sugErr at h
      split at h
      · rename_i h1; exact absurd h h1
      · rename_i h1; simpa using h1
    have he : entsErr E = 0 := by
      unfold ixErr at h0
      split at h0
      · rename_i h1; exact absurd h0 h1
      · rename_i h1; simpa using h1
    rw [ixErr_terms he] at h0
    exact sug_same hs (fun j hj => firstE_zero h0 j hj)
  · rw [if_neg h, if_neg h]
theorem sugWords_len {E : List En} {T : List Te} {word : ByteArray} {m : Int} : (sugWords sugP E T word m).length ≤ 200 := by
  unfold sugWords
  split
  · rename_i h
    have hm : ¬ (m < 0 ∨ 200 < m) := by
      unfold sugErr at h
      intro h2
      split at h
      · rename_i h1; exact absurd h h1
      · split at h
        · exact absurd h (by decide)
        · first | exact absurd h (by decide) | (rw [if_pos h2] at h; exact absurd h (by decide))
    unfold sugP
    rw [List.length_map, List.length_take]
    omega
  · exact Nat.zero_le _

set_option maxHeartbeats 3200000 in
set_option maxRecDepth 100000 in
theorem findSuggests_any (E : List En) (T : List Te) (A B : Option Addr) (cA cB : Nat) (word : ByteArray) (mo : Int) (w : World) (hE : EnsAt w A E) (hT : TesAt w B T) (hs : SizedT T) (hn : T.length ≤ 1048575) (hw : word.size ≤ 1900000) :
    Calls Try.prog 3 #[.agg #[.slice A E.length cA, .slice B T.length cB], .string word, .int .i64 mo] w fun e w' => e = .returned (.bool true) ∧ Below w.heap.size w w' := by
  have H1 := hide (fun W (hb : Below w.heap.size w W) => suggest_any E T A B cA cB word mo W (hE.below hb) (hT.below hb) hs hn hw)
  have H2 := hide (fun W (hb : Below w.heap.size w W) => suggestFor_any E T A B cA cB word mo W (hE.below hb) (hT.below hb) hs hn hw)
  have hlen := sugWords_len (E := E) (T := T) (word := word) (m := mo)
  rw [← sugWords_same hs] at H2
  unfold SugOut at H1 H2
  clear hE hT hs
  generalize sugWords sugP E T word mo = l at *
  generalize sugErr E T word mo = er at *
  have H3 := hide (fun A1 A2 c1 c2 W (h1 : EAt sEnc 1 W A1 l) (h2 : EAt sEnc 1 W A2 l) => equalStr_same A1 A2 c1 c2 l W h1 h2 (by omega))
  go_enter Try.func3, Try.ntmps3
  go_wp2_with (first
    | (go_at_call 4; refine (H1.out _ ?hbw).mono ?_; (case hbw => exact (by repeat (first | with_reducible exact Below.refl _ _ | with_reducible refine bl_plus ?_ | with_reducible refine bl_alloc ?_ _ | with_reducible refine bl_drew ?_ | with_reducible refine bl_drewN ?_ _))); rintro e w' ⟨A1, c1, rfl, hr, hbl⟩; have HR1 := hide hr; obtain ⟨os1, n1, rfl⟩ := below_plus hbl; clear hbl hr)
    | (go_at_call 5; refine (H2.out _ ?hbw).mono ?_; (case hbw => exact (by repeat (first | with_reducible exact Below.refl _ _ | with_reducible refine bl_plus ?_ | with_reducible refine bl_alloc ?_ _ | with_reducible refine bl_drew ?_ | with_reducible refine bl_drewN ?_ _))); rintro e w' ⟨A2, c2, rfl, hr, hbl⟩; have HR2 := hide hr; obtain ⟨os2, n2, rfl⟩ := below_plus hbl; clear hbl hr)
    | (go_at_call 6; with_reducible refine Calls.mono (H3.out A1 A2 c1 c2 _ ?h1 ?h2) ?_; (case h1 => exact HR1.out.below (by repeat (first | with_reducible exact Below.refl _ _ | with_reducible refine bl_plus ?_ | with_reducible refine bl_alloc ?_ _ | with_reducible refine bl_drew ?_ | with_reducible refine bl_drewN ?_ _))); (case h2 => exact HR2.out.below (by repeat (first | with_reducible exact Below.refl _ _ | with_reducible refine bl_plus ?_ | with_reducible refine bl_alloc ?_ _ | with_reducible refine bl_drew ?_ | with_reducible refine bl_drewN ?_ _))); rintro e w' ⟨rfl, hbl⟩; obtain ⟨os3, n3, rfl⟩ := below_plus hbl; clear hbl))
  go_ret
  exact ⟨rfl, (by repeat (first | with_reducible exact Below.refl _ _ | with_reducible refine bl_plus ?_ | with_reducible refine bl_alloc ?_ _ | with_reducible refine bl_drew ?_ | with_reducible refine bl_drewN ?_ _))⟩

set_option maxRecDepth 100000 in
theorem findSuggests_lifted (os : Os) (started : os.Started) (H : Type) (enc : TypeId × Value → H) (Fi : Stop.Interp) :
    ReturnsInHanded {} Try.checked os 3 .any ((Rows.OpenSpec.upto Rows.findSuggestsSpec).pre6 enc Try.prog Try.f3 [] false) (((Rows.OpenSpec.upto Rows.findSuggestsSpec).at Fi).post enc Try.prog Try.f3 false true false false) := by
  refine law_lifted_upto started (by kernel_rfl) Try.func3 rfl (by kernel_rfl) Try.underlying4 (fun t ht => ?_) (fun ds hds => ?_)
    (OpenSpec.witness (enc := enc) (C := Try.checked) (s := Rows.OpenSpec.upto Rows.findSuggestsSpec) (k := Rows.uptoSmall) rfl false ⟨#[], #[.agg #[.slice none 0 0, .slice none 0 0], .string .empty, .int .i64 0], []⟩ 8 (by kernel_rfl) (by kernel_rfl) (by kernel_rfl)
      (x := ([.agg [.nil, .nil], .lit (.string []), .lit (.int .i64 0)], [], [])) (by kernel_rfl) rfl (by kernel_rfl)) ?_
  · rw [Try.params3] at ht
    simp only [List.mem_cons, List.not_mem_nil, or_false] at ht
    rcases ht with rfl | rfl | rfl <;> exact ⟨by kernel_rfl, of_decide_eq_true (by kernel_rfl)⟩
  · rw [Try.params3] at hds
    match ds, hds with
    | [d1, d2, d3], _ => rfl
  · intro W b0 args ds p hval hA hlt hk
    rw [Try.params3] at hA hval
    obtain ⟨v0, v1, v2, d0, d1, d2, p0, p1, p2, rfl, rfl, rfl, h0, h1, h2⟩ := trodAll_three hA
    obtain ⟨E, T, A, B, c, c', rfl, hE, hT, hbulk⟩ := open_index (hval 0 _ v0 rfl rfl) h0
    obtain ⟨a, rfl, rfl, rfl, ma⟩ := open_string Try.underlying9 (hval 1 _ v1 rfl rfl) h1
    obtain ⟨mo, rfl, rfl, rfl, wm⟩ := open_int Try.underlying3 (hval 2 _ v2 rfl rfl) h2
    have hk2 : Rows.uptoBulkAll [d0, DataW.lit (H := H) (.string a.data.toList), .lit (.int .i64 mo)] ≤ 1048576 := of_decide_eq_true hk
    simp only [Rows.uptoBulkAll] at hk2
    have e : Rows.uptoBulk (DataW.lit (H := H) (.string a.data.toList)) = a.size + 1 := by
      simp only [Rows.uptoBulk, Array.length_toList]
      rfl
    rw [e] at hk2
    obtain ⟨q1, q2⟩ := index_small (T := T) (M := 1048575) (by omega)
    exact findSuggests_any E T A B c c' a mo W hE hT (fun t ht => by have := q2 t ht; omega) q1 (by omega)

set_option maxRecDepth 100000 in
theorem findSuggests_holds : Rows.FindSuggestsUptoSaid :=
  OpenClaim.holds_of_cond 3 Try.f3 rfl rfl rfl rfl rfl rfl rfl ⟨rfl, rfl, rfl, rfl, rfl⟩ rfl rfl rfl rfl rfl (by kernel_rfl) Try.func3 (by kernel_rfl)
    (of_decide_eq_true (by kernel_rfl)) (by unfold Func.isWrapper; first | (rw [if_pos (by decide +kernel)]; kernel_rfl) | (rw [if_neg (by decide +kernel)]; exact ⟨rfl, rfl⟩))
    (fun os started H enc _ F => findSuggests_lifted os started H enc F)

#print axioms findSuggests_holds
end Go.Proofs.Ytfpcfpjnafnjiaa
