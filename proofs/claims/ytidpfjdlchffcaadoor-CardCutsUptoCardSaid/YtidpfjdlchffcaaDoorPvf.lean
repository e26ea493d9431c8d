/-
  WALK: a value's error, in the program.
-/
import Derived.Test.YtidpfjdlchffcaaDoorPve
set_option linter.all false
namespace Go.Proofs.YtidpfjdlchffcaaDoor
open Go.RowKit Go.Lib

def itemErr (x : V) : Int := if x.k = 0 ∨ x.k = 7 then 10 else x.selfErr

/-- The first item that is not right. -/
def itemsErr (l : List V) : Int := match l.find? (fun x => itemErr x != 0) with
  | some x => itemErr x
  | none => 0

def V.err (v : V) : Int := if v.selfErr ≠ 0 then v.selfErr else itemsErr v.l

theorem itemsErr_none {l : List V} (h : ∀ j (hj : j < l.length), itemErr l[j] = 0) : itemsErr l = 0 := by
  unfold itemsErr
  rw [List.find?_eq_none.2 (fun x hx => by obtain ⟨j, hj, rfl⟩ := List.getElem_of_mem hx; rw [h j hj]; simp)]

theorem itemsErr_first : ∀ {l : List V} {k : Nat} (hk : k < l.length), (∀ j (hj : j < l.length), j < k → itemErr l[j] = 0) → itemErr l[k] ≠ 0 → itemsErr l = itemErr l[k]
  | [], k, hk, _, _ => absurd hk (by simp)
  | x :: l, 0, hk, _, hne => by
    unfold itemsErr
    rw [List.find?_cons_of_pos (by simpa using hne)]
    rfl
  | x :: l, k + 1, hk, h, hne => by
    have h0 := h 0 (by simp) (by omega)
    have ih := itemsErr_first (l := l) (k := k) (by simpa using hk) (fun j hj hjk => h (j + 1) (by simpa using hj) (by omega)) hne
    unfold itemsErr at ih ⊢
    have h0' : itemErr x = 0 := h0
    rw [List.find?_cons_of_neg (by rw [h0']; simp), ih]
    rfl

theorem V.self_cases (v : V) : ((v.k < 0 ∨ 7 < v.k) ∧ v.selfErr = 10) ∨ ((0 ≤ v.k ∧ v.k ≤ 7) ∧ ((v.formOk = false ∧ v.selfErr = 1) ∨ (v.formOk = true ∧
    ((v.numErr ≠ 0 ∧ v.selfErr = v.numErr) ∨ (v.numErr = 0 ∧ ((v.textErr ≠ 0 ∧ v.selfErr = v.textErr) ∨ (v.textErr = 0 ∧ ((20 < v.l.length ∧ v.selfErr = 4) ∨ (v.l.length ≤ 20 ∧ v.selfErr = 0))))))))) := by
  unfold V.selfErr
  by_cases h1 : v.k < 0 ∨ 7 < v.k
  · exact .inl ⟨h1, if_pos h1⟩
  refine .inr ⟨by omega, ?_⟩
  rw [if_neg h1]
  cases h2 : v.formOk with
  | false => exact .inl ⟨rfl, if_pos rfl⟩
  | true =>
    refine .inr ⟨rfl, ?_⟩
    rw [if_neg (fun h => Bool.false_ne_true h.symm)]
    by_cases h3 : v.numErr = 0
    · refine .inr ⟨h3, ?_⟩
      rw [if_neg (by omega)]
      by_cases h4 : v.textErr = 0
      · refine .inr ⟨h4, ?_⟩
        rw [if_neg (by omega)]
        by_cases h5 : 20 < v.l.length
        · exact .inl ⟨h5, if_pos h5⟩
        · exact .inr ⟨by omega, if_neg h5⟩
      · exact .inl ⟨h4, if_pos h4⟩
    · exact .inl ⟨h3, if_pos h3⟩

set_option maxHeartbeats 3200000 in
set_option maxRecDepth 100000 in
theorem checkValue_short (v : V) (A : Option Addr) (c : Nat) (w : World) (hm : v.l.length ≤ maxLen) (hs : v.selfErr ≠ 0 ∨ v.l.length = 0) :
    Calls Tryd.prog 43 #[v.arg A c] w fun e w' => e = .returned (.int .i64 v.selfErr) ∧ Below w.heap.size w w' := by
  have hc := v.self_cases
  have H1 := hide (fun w h0 h7 => usesForm_any v A c w h0 h7 hm)
  have H2 := hide (fun w => checkNumbers_any v A c w)
  have H3 := hide (fun w => checkText_any v A c w)
  generalize v.selfErr = E at *
  generalize v.formOk = F at *
  generalize v.numErr = N at *
  generalize v.textErr = T at *
  obtain ⟨k, i, t, s, l⟩ := v
  simp only [V.arg, V.k, V.i, V.t, V.s, V.l] at *
  unfold maxLen at hm
  generalize l.length = n at *
  go_enter Tryd.func43, Tryd.ntmps43
  rcases hc with ⟨h, rfl⟩ | ⟨⟨a1, a2⟩, ⟨rfl, rfl⟩ | ⟨rfl, ⟨h, rfl⟩ | ⟨rfl, ⟨h, rfl⟩ | ⟨rfl, ⟨h, rfl⟩ | ⟨h, rfl⟩⟩⟩⟩⟩
  all_goals
    (try have q1 := bne_iff_ne.2 h)
    (try (have q2 : n = 0 := by omega); subst q2)
    clear hs
    go_wp2_with (first
      | (go_at_call 56; first
          | (with_reducible refine Calls.mono (outsideP_yes _ _ _ _ (by omega)) ?_; rintro e w' ⟨rfl, rfl⟩)
          | (with_reducible refine Calls.mono (outsideP_no _ _ _ _ (by omega) (by omega)) ?_; rintro e w' ⟨rfl, rfl⟩))
      | (go_at_call 57; refine (H1.out _ a1 a2).mono ?_; rintro e w' ⟨rfl, hbl⟩; obtain ⟨os1, n1, rfl⟩ := below_plus hbl; clear hbl)
      | (go_at_call 58; refine (H2.out _).mono ?_; rintro e w' ⟨rfl, hbl⟩; obtain ⟨os2, n2, rfl⟩ := below_plus hbl; clear hbl)
      | (go_at_call 59; refine (H3.out _).mono ?_; rintro e w' ⟨rfl, hbl⟩; obtain ⟨os3, n3, rfl⟩ := below_plus hbl; clear hbl))
    first
      | (go_ret; exact ⟨rfl, (by repeat (first | exact Below.refl _ _ | refine bl_plus ?_ | refine bl_alloc ?_ _ | refine bl_drew ?_))⟩)
      | (go_loopw [31] (fun i wr => i = .int .i64 0 ∧ Hid (Below w.heap.size w wr)) (fun _ _ => 0)
         case atStart => exact ⟨rfl, hide (by repeat (first | exact Below.refl _ _ | refine bl_plus ?_ | refine bl_alloc ?_ _ | refine bl_drew ?_))⟩
         case round =>
           obtain ⟨rfl, HB⟩ := hrel
           go_wp2
           go_ret
           exact ⟨rfl, HB.out⟩)

theorem V.leaf {x : V} (h7 : x.k ≠ 7) : x.selfErr ≠ 0 ∨ x.l.length = 0 := by
  by_cases he : x.selfErr = 0
  · right
    rcases x.self_cases with ⟨_, h⟩ | ⟨_, ⟨_, h⟩ | ⟨hf, _⟩⟩
    · omega
    · omega
    · unfold V.formOk formB at hf
      simp only [Bool.and_eq_true, Bool.or_eq_true, decide_eq_true_eq] at hf
      exact hf.2.2.2.resolve_left h7
  · exact .inl he

end Go.Proofs.YtidpfjdlchffcaaDoor
