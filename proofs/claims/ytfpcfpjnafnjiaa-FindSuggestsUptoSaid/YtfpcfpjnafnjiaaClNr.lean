/-
  WALKS: slices.Clone and slices.Clip at elements of find.near.
-/
import Derived.Test.YtfpcfpjnafnjiaaEat
import Derived.Test.YtfpcfpjnafnjiaaWordE
set_option linter.all false
namespace Go.Proofs.Ytfpcfpjnafnjiaa
open Go.RowKit Go.Shelf

theorem info_Nr : (Try.prog.info? 45).map (fun i => (i.zero, i.size, i.bytes)) = some (some (.agg #[.string ByteArray.empty, .int .i64 0, .int .i64 0]), 3, 32) := by kernel_rfl

section
variable {α : Type} {enc : α → List Value}
set_option maxHeartbeats 400000 in
theorem clipNr_any (A : Option Addr) (n c : Nat) (w : World) (h : n ≤ c) :
    Calls Try.prog 36 #[.slice A n c] w fun e w' => e = .returned (.slice A n n) ∧ w = w' := by
  go_enter Try.func36, Try.ntmps36
  go_wp2
  go_ret
  exact ⟨rfl, rfl⟩

def CloneNrOut (enc : α → List Value) (l : List α) (w : World) (e : Ending) (w' : World) : Prop := ∃ A c, e = .returned (.slice A l.length c) ∧ OwnK 3 45 w' w.heap.size (.slice A l.length c) l.length (l.flatMap enc) ∧ Below w.heap.size w w'

set_option maxHeartbeats 1600000 in
theorem cloneNr_any (hlen : ∀ x, (enc x).length = 3) (hone : ∀ x, ∀ v ∈ enc x, v.oneCell' = true) (A : Option Addr) (c : Nat) (l : List α) (w : World) (hA : EAt enc 3 w A l) (hl : l.length ≤ 2000000) :
    Calls Try.prog 34 #[.slice A l.length c] w (CloneNrOut enc l w) := by
  have qT : ∀ (w : World) (a : Option Addr) (n c n' c' : Nat), (binOp .eql 36 (.slice a n c) (.slice none n' c')).run Try.prog w = .ok (.bool a.isNone) w := fun w a n c n' c' => Lib.run_eql_slice_nil w _ _ a n c n' c' Try.underlying36
  cases A with
  | none =>
    have h0 : l = [] := by
      rcases Nat.eq_zero_or_pos l.length with h | h
      · exact List.length_eq_zero_iff.1 h
      · obtain ⟨b, o, hb, _⟩ := hA h
        cases hb
    subst h0
    go_enter Try.func34, Try.ntmps34
    go_wp2
    go_ret
    exact ⟨none, 0, rfl, OwnK.empty, Below.refl _ _⟩
  | some a =>
    have hown : (w.alloc (.cells #[] 45)).ownsRow w.heap.size 45 3 (.slice (some ⟨w.heap.size, 0, none⟩) 0 0) 0 [] :=
      ⟨rfl, .inr ⟨w.heap.size, 0, #[], rfl, Nat.le_refl _, heap_alloc_new w _, Nat.le_refl _, by simp [maxLen], rfl, rfl⟩⟩
    have hfl := flatE_len hlen l
    have hnews : ∀ (j : Nat) (u : Value), (l.flatMap enc)[j]? = some u → (w.alloc (.cells #[] 45)).cell? (a.add j) = some u := by
      intro j u hu
      have hj : j < l.length * 3 := by
        rcases Nat.lt_or_ge j (l.length * 3) with h | h
        · exact h
        · rw [List.getElem?_eq_none (by rw [hfl]; exact h)] at hu; cases hu
      obtain ⟨b, off, hab, hb, hc⟩ := (hA.below (bl_alloc (Below.refl _ _) (.cells #[] 45))) (by omega)
      injection hab with hab
      subst hab
      have hq : j / 3 < l.length := by omega
      have h1 := hc (j / 3) hq (j % 3) (by omega)
      have h2 := flatE_get hlen l (j / 3) (j % 3) hq (by omega)
      rw [show j / 3 * 3 + j % 3 = j by omega, hu] at h2
      have hadd : (⟨b, off, none⟩ : Addr).add j = ⟨b, off + j, none⟩ := by unfold Addr.add; split <;> simp_all
      rw [hadd, show off + j = off + j / 3 * 3 + j % 3 by omega, h1]
      exact h2.symm
    have hone : ∀ u ∈ l.flatMap enc, u.oneCell' = true := by
      intro u hu
      obtain ⟨x, _, hx⟩ := List.mem_flatMap.1 hu
      exact hone x u hx
    obtain ⟨i0, hi, hz0, hz1, hz2⟩ := info_parts info_Nr
    have HO := hide hown
    have HN := hide hnews
    have HONE := hide hone
    have HFL := hide hfl
    clear hown hnews hA hone hfl
    go_enter Try.func34, Try.ntmps34
    go_wp2_with (at_builtin; refine wpList_append_own _ rfl (.tmp 5) (.tmp 6) 36 rfl w.heap.size 45 i0 (.agg #[.string ByteArray.empty, .int .i64 0, .int .i64 0]) 3 32 Try.underlying36 hi hz0 hz1 hz2 rfl (by decide) _ 0 [] rfl HO.out a l.length c (l.flatMap enc) rfl HFL.out HN.out HONE.out ?c1 ?c2 ?c3 ?_)
    case c1 => unfold maxLen; omega
    case c2 => omega
    case c3 => simp
    intro v' w1 hown1 hgrow1 _
    have hbw : Below w.heap.size w w1 := (Below.alloc (Below.refl _ _) (Nat.le_refl _) _).grown hgrow1 (by simp) (fun k hk => by simp [Value.ownBlock] at hk; omega)
    have hok := ownK_of_ownW hown1
    obtain ⟨A1, c1, rfl, _⟩ := ownK_form hok
    have HFF := hide (show CloneNrOut enc l w (.returned (.slice A1 l.length c1)) w1 from ⟨A1, c1, rfl, by simpa using hok, hbw⟩)
    clear hown1 hgrow1 hbw hok
    go_wp2
    go_ret
    exact HFF.out
end

end Go.Proofs.Ytfpcfpjnafnjiaa
