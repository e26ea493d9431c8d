/-
  WALK: a value's text.
-/
import Derived.Test.YtidpfjdlchffcaaDoorPvd
set_option linter.all false
namespace Go.Proofs.YtidpfjdlchffcaaDoor
open Go.RowKit Go.Lib

set_option maxHeartbeats 3200000 in
set_option maxRecDepth 100000 in
theorem checkText_any (v : V) (A : Option Addr) (c : Nat) (w : World) :
    Calls Tryd.prog 59 #[v.arg A c] w fun e w' => e = .returned (.int .i64 v.textErr) ∧ Below w.heap.size w w' := by
  have hc := v.text_cases
  have HCT := hide (fun w => hasControl_any v.s w)
  generalize v.textErr = E at *
  obtain ⟨k, i, t, s, l⟩ := v
  simp only [V.arg, V.k, V.i, V.t, V.s, V.l] at *
  have hemp := toList_empty s
  generalize ctl s = T at *
  rcases hc with ⟨h1, rfl⟩ | ⟨h1, rfl, h2, rfl⟩ | ⟨⟨h1, h2⟩, hc⟩ | ⟨⟨rfl, h1⟩, hc⟩
  · have i1 : (2000 : Int) < (s.size : Int) := by omega
    clear hemp
    go_enter Tryd.func59, Tryd.ntmps59
    go_wp2
    go_ret
    exact ⟨rfl, (by repeat (first | exact Below.refl _ _ | refine bl_plus ?_ | refine bl_alloc ?_ _ | refine bl_drew ?_))⟩
  · have i1 : ¬ (2000 : Int) < (s.size : Int) := by omega
    have i2 : (100 : Int) < (s.size : Int) := by omega
    clear hemp
    go_enter Tryd.func59, Tryd.ntmps59
    go_wp2
    go_ret
    exact ⟨rfl, (by repeat (first | exact Below.refl _ _ | refine bl_plus ?_ | refine bl_alloc ?_ _ | refine bl_drew ?_))⟩
  · have i1 : ¬ (2000 : Int) < (s.size : Int) := by omega
    have i2 : (k == 6) = false := beq_eq_false_iff_ne.2 h2
    clear hemp
    rcases hc with ⟨rfl, rfl⟩ | ⟨rfl, rfl⟩
    all_goals
      go_enter Tryd.func59, Tryd.ntmps59
      go_wp2_with (go_at_call 68; refine (HCT.out _).mono ?_; rintro e w' ⟨rfl, hbl⟩; obtain ⟨os1, n1, rfl⟩ := below_plus hbl; clear hbl)
      go_ret
      exact ⟨rfl, (by repeat (first | exact Below.refl _ _ | refine bl_plus ?_ | refine bl_alloc ?_ _ | refine bl_drew ?_))⟩
  · have i1 : ¬ (2000 : Int) < (s.size : Int) := by omega
    have i2 : ¬ (100 : Int) < (s.size : Int) := by omega
    rcases hc with ⟨rfl, rfl⟩ | ⟨rfl, ⟨h0, rfl⟩ | ⟨m, x, y, hm, hx, hy, hc⟩⟩
    · clear hemp
      go_enter Tryd.func59, Tryd.ntmps59
      go_wp2_with (go_at_call 68; refine (HCT.out _).mono ?_; rintro e w' ⟨rfl, hbl⟩; obtain ⟨os1, n1, rfl⟩ := below_plus hbl; clear hbl)
      go_ret
      exact ⟨rfl, (by repeat (first | exact Below.refl _ _ | refine bl_plus ?_ | refine bl_alloc ?_ _ | refine bl_drew ?_))⟩
    · rw [decide_eq_true h0] at hemp
      clear h0
      go_enter Tryd.func59, Tryd.ntmps59
      go_wp2_with (go_at_call 68; refine (HCT.out _).mono ?_; rintro e w' ⟨rfl, hbl⟩; obtain ⟨os1, n1, rfl⟩ := below_plus hbl; clear hbl)
      go_ret
      exact ⟨rfl, (by repeat (first | exact Below.refl _ _ | refine bl_plus ?_ | refine bl_alloc ?_ _ | refine bl_drew ?_))⟩
    · rw [decide_eq_false (by omega)] at hemp
      have ix := idx_str hx
      rw [show (((0 : Nat) : Int)) = 0 from rfl] at ix
      have iy := idx_str hy
      have HQ := hide (fun w => containsAny_any s ⟨#[91, 93, 124]⟩ w (by decide) (by decide) (by omega) (by
        intro j b hb
        have hmem : b ∈ [(91 : UInt8), 93, 124] := List.mem_of_getElem? hb
        simp only [List.mem_cons, List.not_mem_nil, or_false] at hmem
        rcases hmem with rfl | rfl | rfl <;> decide))
      change Hid (∀ w, Calls Tryd.prog 69 #[.string s, .string ⟨#[91, 93, 124]⟩] w fun e w' => e = .returned (.bool (sqAny s)) ∧ Below w.heap.size w w') at HQ
      have hwm : IntKind.i64.wrap (m : Int) = (m : Int) := by rw [IntKind.wrap_i64]; omega
      clear hx hy
      generalize sqAny s = Q at *
      rcases hc with ⟨e1, rfl⟩ | ⟨e1, e2, rfl⟩ | ⟨e1, e2, rfl, rfl⟩ | ⟨e1, e2, rfl, rfl⟩
      all_goals
        (try have b1 : ((x.toNat : Int) == 32) = true := beq_iff_eq.2 (by omega))
        (try have b1 : ((x.toNat : Int) == 32) = false := beq_eq_false_iff_ne.2 (by omega))
        (try have b2 : ((y.toNat : Int) == 32) = true := beq_iff_eq.2 (by omega))
        (try have b2 : ((y.toNat : Int) == 32) = false := beq_eq_false_iff_ne.2 (by omega))
        clear e1
        (try clear e2)
        go_enter Tryd.func59, Tryd.ntmps59
        go_wp2_with (first
          | (go_at_call 68; refine (HCT.out _).mono ?_; rintro e w' ⟨rfl, hbl⟩; obtain ⟨os1, n1, rfl⟩ := below_plus hbl; clear hbl)
          | (go_at_call 69; refine (HQ.out _).mono ?_; rintro e w' ⟨rfl, hbl⟩; obtain ⟨os2, n2, rfl⟩ := below_plus hbl; clear hbl))
        go_ret
        exact ⟨rfl, (by repeat (first | exact Below.refl _ _ | refine bl_plus ?_ | refine bl_alloc ?_ _ | refine bl_drew ?_))⟩

end Go.Proofs.YtidpfjdlchffcaaDoor
