/-
  WALKS: slices.Clone, slices.Clip and slices.Equal at states.
-/
import Derived.Test.YtokghdcfbbogdaaClone
namespace Go.Proofs.Ytokghdcfbbogdaa
open Go.RowKit

theorem run_neq_st (a0 a1 a2 a3 a4 a5 a6 a7 a8 : Int) (w : World) :
    (binOp .neq 24 (.agg #[.int .i64 a0, .int .i64 a1, .int .i64 a2, .int .i64 a3, .int .i64 a4, .int .i64 a5, .int .i64 a6, .int .i64 a7, .int .i64 a8]) (.agg #[.int .i64 a0, .int .i64 a1, .int .i64 a2, .int .i64 a3, .int .i64 a4, .int .i64 a5, .int .i64 a6, .int .i64 a7, .int .i64 a8])).run Try.prog w = .ok (.bool false) w := by
  simp [go_sem]
attribute [local go_sem ↓] run_neq_st

set_option maxHeartbeats 800000 in
set_option maxRecDepth 100000 in
theorem equalSts_same (A B : Option Addr) (c c' : Nat) (xs : List St) (w : World) (hA : StsAt w A xs) (hB : StsAt w B xs) (hm : xs.length ≤ maxLen) :
    Calls Try.prog 24 #[.slice A xs.length c, .slice B xs.length c'] w fun e w' => e = .returned (.bool true) ∧ Below w.heap.size w w' := by
  unfold maxLen at hm
  have HA := hide hA
  have HB := hide hB
  clear hA hB
  go_enter Try.func24, Try.ntmps24
  go_wp2
  go_loopw [13] (fun i wr => ∃ (k n : Nat), k ≤ xs.length ∧ i = .int .i64 k ∧ wr = w.drewN n) (fun i _ => xs.length - (intOf i).toNat)
  case atStart => exact ⟨0, 0, Nat.zero_le _, rfl, rfl⟩
  case round =>
    obtain ⟨k, n, hk, rfl, rfl⟩ := hrel
    by_cases hlt : k < xs.length
    · obtain ⟨b, off, rfl, hb, hcell⟩ := HA.out (by omega)
      obtain ⟨b', off', rfl, hb', hcell'⟩ := HB.out (by omega)
      obtain ⟨c0, c1, c2, c3, c4, c5, c6, c7, c8⟩ := hcell k hlt
      obtain ⟨d0, d1, d2, d3, d4, d5, d6, d7, d8⟩ := hcell' k hlt
      generalize xs[k] = x at c0 c1 c2 c3 c4 c5 c6 c7 c8 d0 d1 d2 d3 d4 d5 d6 d7 d8
      clear hcell hcell'
      have i1 : (k : Int) < (xs.length : Int) := by omega
      go_wp2
      go_quiet (fail)
      go_wp2
      go_roundw
      case rel => exact ⟨k + 1, _, hlt, by go_num, rfl⟩
      case measure => simp [intOf]; omega
    · have hkl : k = xs.length := by omega
      go_wp2
      go_returns
      exact ⟨rfl, bl_drewN (Below.refl _ _) _⟩

set_option maxHeartbeats 400000 in
theorem clipSts_any (A : Option Addr) (n c : Nat) (w : World) (h : n ≤ c) :
    Calls Try.prog 63 #[.slice A n c] w fun e w' => e = .returned (.slice A n n) ∧ w = w' := by
  go_enter Try.func63, Try.ntmps63
  go_wp2
  go_ret
  exact ⟨rfl, rfl⟩

theorem info_st : (Try.prog.info? 24).map (fun i => (i.zero, i.size, i.bytes)) = some (some (St.zero.val), 9, 72) := by kernel_rfl

/-- A clone: the call's own. -/
def CloneOut (xs : List St) (w : World) (e : Ending) (w' : World) : Prop := ∃ v, e = .returned v ∧ w'.ownsRow w.heap.size 24 9 v xs.length (flat xs) ∧ Below w.heap.size w w'

set_option maxHeartbeats 800000 in
theorem cloneSts_any (A : Option Addr) (c : Nat) (xs : List St) (w : World) (hA : StsAt w A xs) (hnil : A = none → xs = [] ∧ c = 0) (hlen : xs.length ≤ 5000) :
    Calls Try.prog 62 #[.slice A xs.length c] w (CloneOut xs w) := by
  have qT : ∀ (w : World) (a : Option Addr) (n c n' c' : Nat), (binOp .eql 36 (.slice a n c) (.slice none n' c')).run Try.prog w = .ok (.bool a.isNone) w := fun w a n c n' c' => Lib.run_eql_slice_nil w _ _ a n c n' c' Try.underlying36
  cases A with
  | none =>
    obtain ⟨rfl, rfl⟩ := hnil rfl
    go_enter Try.func62, Try.ntmps62
    go_wp2
    go_ret
    exact ⟨_, rfl, World.ownsRow_nil _ _ _ _, Below.refl _ _⟩
  | some a =>
    have hown : (w.alloc (.cells #[] 24)).ownsRow w.heap.size 24 9 (.slice (some ⟨w.heap.size, 0, none⟩) 0 0) 0 [] :=
      ⟨rfl, .inr ⟨w.heap.size, 0, #[], rfl, Nat.le_refl _, heap_alloc_new w _, Nat.le_refl _, by simp [maxLen], rfl, rfl⟩⟩
    have hnews : ∀ (j : Nat) (u : Value), (flat xs)[j]? = some u → (w.alloc (.cells #[] 24)).cell? (a.add j) = some u := by
      intro j u hu
      by_cases hx : 0 < xs.length
      · obtain ⟨b, off, hab, hb, hc⟩ := hA.alloc (.cells #[] 24) hx
        injection hab with hab
        subst hab
        exact flat_cells hc j u hu
      · have : xs = [] := by cases xs with | nil => rfl | cons => simp at hx
        subst this
        simp [flat] at hu
    obtain ⟨i0, hi, hz0, hz1, hz2⟩ := info_parts info_st
    have HO := hide hown
    have HN := hide hnews
    clear hown hnews hA hnil
    go_enter Try.func62, Try.ntmps62
    go_wp2_with (at_builtin; refine wpList_append_own _ rfl (.tmp 5) (.tmp 6) 36 rfl w.heap.size 24 i0 St.zero.val 9 72 Try.underlying36 hi hz0 hz1 hz2 rfl (by decide) _ 0 [] rfl HO.out a xs.length c (flat xs) rfl (flat_len xs) HN.out (flat_one xs) ?c1 ?c2 ?c3 ?_)
    case c1 => unfold maxLen; omega
    case c2 => omega
    case c3 => simp
    intro v' w1 hown1 hgrow1 _
    have HF : CloneOut xs w (.returned v') w1 := ⟨v', rfl, by simpa using hown1, (Below.alloc (Below.refl _ _) (Nat.le_refl _) _).grown hgrow1 (by simp) (fun k hk => by simp [Value.ownBlock] at hk; omega)⟩
    have HFF := hide HF
    clear HF hown1 hgrow1
    go_wp2
    go_ret
    exact HFF.out

end Go.Proofs.Ytokghdcfbbogdaa
