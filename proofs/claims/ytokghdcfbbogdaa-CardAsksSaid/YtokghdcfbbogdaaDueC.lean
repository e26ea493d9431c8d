/-
  WALKS: slices.SortStableFunc over the places of the due states; askedFor.
-/
import Derived.Test.YtokghdcfbbogdaaDueB
namespace Go.Proofs.Ytokghdcfbbogdaa
open Go.RowKit Go.Shelf Go.Lib

set_option maxHeartbeats 1600000 in
set_option maxRecDepth 100000 in
theorem sortDue_any (g0 : Nat) (A0 A : Option Addr) (c0 c n base : Nat) (xs : List St) (d : Int) (w W : World) (hA : StsAt w A0 xs) (hW : Below w.heap.size w W) (hwb : w.heap.size ≤ base) (hbW : base ≤ W.heap.size) (hg0 : g0 < base)
    (hbox : W.cell? ⟨g0, 0, none⟩ = some (.slice A0 xs.length c0)) (hl : xs.length ≤ 5000) (hown : W.ownsRow base 3 1 (.slice A n c) n ((pick (asked d) xs xs.length).map (Value.int .i64))) :
    Calls Try.prog 93 #[.slice A n c, .func (.func 94) #[] #[.pointer (some ⟨g0, 0, none⟩)]] W fun e w' =>
      e = .returned (.tuple #[]) ∧ Below base W w' ∧ w'.ownsRow base 3 1 (.slice A n c) n ((dueList xs d).map (Value.int .i64)) := by
  have hlen : (pick (asked d) xs xs.length).length = n := by have := hown.1; simpa using this
  by_cases hn : n = 0
  · subst hn
    refine (sortStable_none _ _ A c W).mono ?_
    rintro e w' ⟨rfl, rfl⟩
    have h0 : dueList xs d = [] := List.length_eq_zero_iff.1 (by rw [dueList_len, hlen])
    have h1 : pick (asked d) xs xs.length = [] := List.length_eq_zero_iff.1 hlen
    rw [h1] at hown
    exact ⟨rfl, Below.refl _ _, by rw [h0]; exact hown⟩
  · have hpos : 0 < xs.length := by have := pick_le (asked d) xs xs.length; omega
    letI : Inhabited (Fin xs.length) := ⟨⟨0, hpos⟩⟩
    obtain ⟨g, rfl⟩ : ∃ g, A = some ⟨g, 0, none⟩ := by
      rcases hown.2 with ⟨hv, h0⟩ | ⟨g, cap, cur, hv, _⟩
      · omega
      · injection hv with h1 _ _; exact ⟨g, h1⟩
    have hval := pickFin_val (asked d) xs hpos
    have hpn : n < 1000000000000 := by have := pick_le (asked d) xs xs.length; omega
    have hdl : dueList xs d = (stableF (ltOf (dueBy xs)) (pickFin (asked d) xs hpos)).toList.map finZ := by unfold dueList; rw [dif_pos hpos]
    rw [hdl]
    rw [← hval] at hown hlen
    generalize pickFin (asked d) xs hpos = p at hown hlen ⊢
    have hps : p.size = n := by simpa using hlen
    have hlt := own_lt hown
    have R : Row1 (encV finZ) W g 0 p := ⟨one_int _, own_holds hown, hlt.2⟩
    have eg : ∀ args w, (callFunc 94 args).run Try.prog w = .ok (.enter 94 args) w := enters_of Try.func94 (by kernel_rfl) rfl
    have hcmp : CmpLays1 Try.prog 94 #[.pointer (some ⟨g0, 0, none⟩)] (encV finZ) (dueBy xs) g 0 n W := by
      intro m os dk hdk x y
      have hS : SW (encV finZ) W g 0 dk (sortWorld (encV finZ) W g 0 m dk os) := ⟨m, os, rfl⟩
      have hB := sw_below hS hlt.1 hbW
      refine dueLess_any g0 A0 c0 xs x.val y.val x.isLt y.isLt _ ?_ ?_
      · rw [hB.cell (p := ⟨g0, 0, none⟩) hg0]; exact hbox
      · exact hA.below (hW.trans (hB.mono hwb))
    refine (sortStable_s _ _ (dueBy xs) g 0 c n p W eg hcmp R hps (by omega) hpn p W hps (SW.start (own_holds hown))).mono ?_
    rintro e w' ⟨rfl, hS⟩
    exact ⟨rfl, sw_below hS hlt.1 hbW, own_sorted hown hS (by rw [stableF_size]; exact hps)⟩

set_option maxHeartbeats 1600000 in
set_option maxRecDepth 100000 in
theorem sortDueAt_any (g0 : Nat) (A0 A : Option Addr) (c0 c n base : Nat) (xs : List St) (d : Int) (w W : World) (hA : StsAt w A0 xs) (hW : Below w.heap.size w W) (hwb : w.heap.size ≤ base) (hbW : base ≤ W.heap.size) (hg0 : g0 < base)
    (hbox : W.cell? ⟨g0, 0, none⟩ = some (.slice A0 xs.length c0)) (hl : xs.length ≤ 5000) (hown : W.ownsRow base 3 1 (.slice A n c) n ((pick (asked d) xs xs.length).map (Value.int .i64))) :
    Calls Try.prog 93 #[.slice A n c, .func (.func 95) #[] #[.pointer (some ⟨g0, 0, none⟩)]] W fun e w' =>
      e = .returned (.tuple #[]) ∧ Below base W w' ∧ w'.ownsRow base 3 1 (.slice A n c) n ((dueList xs d).map (Value.int .i64)) := by
  have hlen : (pick (asked d) xs xs.length).length = n := by have := hown.1; simpa using this
  by_cases hn : n = 0
  · subst hn
    refine (sortStable_none _ _ A c W).mono ?_
    rintro e w' ⟨rfl, rfl⟩
    have h0 : dueList xs d = [] := List.length_eq_zero_iff.1 (by rw [dueList_len, hlen])
    have h1 : pick (asked d) xs xs.length = [] := List.length_eq_zero_iff.1 hlen
    rw [h1] at hown
    exact ⟨rfl, Below.refl _ _, by rw [h0]; exact hown⟩
  · have hpos : 0 < xs.length := by have := pick_le (asked d) xs xs.length; omega
    letI : Inhabited (Fin xs.length) := ⟨⟨0, hpos⟩⟩
    obtain ⟨g, rfl⟩ : ∃ g, A = some ⟨g, 0, none⟩ := by
      rcases hown.2 with ⟨hv, h0⟩ | ⟨g, cap, cur, hv, _⟩
      · omega
      · injection hv with h1 _ _; exact ⟨g, h1⟩
    have hval := pickFin_val (asked d) xs hpos
    have hpn : n < 1000000000000 := by have := pick_le (asked d) xs xs.length; omega
    have hdl : dueList xs d = (stableF (ltOf (dueBy xs)) (pickFin (asked d) xs hpos)).toList.map finZ := by unfold dueList; rw [dif_pos hpos]
    rw [hdl]
    rw [← hval] at hown hlen
    generalize pickFin (asked d) xs hpos = p at hown hlen ⊢
    have hps : p.size = n := by simpa using hlen
    have hlt := own_lt hown
    have R : Row1 (encV finZ) W g 0 p := ⟨one_int _, own_holds hown, hlt.2⟩
    have eg : ∀ args w, (callFunc 95 args).run Try.prog w = .ok (.enter 95 args) w := enters_of Try.func95 (by kernel_rfl) rfl
    have hcmp : CmpLays1 Try.prog 95 #[.pointer (some ⟨g0, 0, none⟩)] (encV finZ) (dueBy xs) g 0 n W := by
      intro m os dk hdk x y
      have hS : SW (encV finZ) W g 0 dk (sortWorld (encV finZ) W g 0 m dk os) := ⟨m, os, rfl⟩
      have hB := sw_below hS hlt.1 hbW
      refine dueAtLess_any g0 A0 c0 xs x.val y.val x.isLt y.isLt _ ?_ ?_
      · rw [hB.cell (p := ⟨g0, 0, none⟩) hg0]; exact hbox
      · exact hA.below (hW.trans (hB.mono hwb))
    refine (sortStable_s _ _ (dueBy xs) g 0 c n p W eg hcmp R hps (by omega) hpn p W hps (SW.start (own_holds hown))).mono ?_
    rintro e w' ⟨rfl, hS⟩
    exact ⟨rfl, sw_below hS hlt.1 hbW, own_sorted hown hS (by rw [stableF_size]; exact hps)⟩


set_option maxHeartbeats 1600000 in
set_option maxRecDepth 100000 in
theorem askedFor_any (x : St) (d : Int) (w : World) :
    Calls Try.prog 73 #[x.val, .int .i64 d] w fun e w' => e = .returned (.bool (asked d x)) ∧ Below w.heap.size w w' := by
  have hc : (x.du < 0 ∧ asked d x = false) ∨ (0 ≤ x.du ∧ d < x.du ∧ asked d x = false) ∨ (0 ≤ x.du ∧ x.du ≤ d ∧ decide (x.bu < d) = false ∧ asked d x = false) ∨ (0 ≤ x.du ∧ x.du ≤ d ∧ decide (x.bu < d) = true ∧ asked d x = true) := by
    unfold asked
    by_cases h1 : 0 ≤ x.du
    · by_cases h2 : x.du ≤ d
      · by_cases h3 : x.bu < d
        · exact .inr (.inr (.inr ⟨h1, h2, by simpa using h3, by simp [h1, h2, h3]⟩))
        · exact .inr (.inr (.inl ⟨h1, h2, by simpa using h3, by simp [h3]⟩))
      · exact .inr (.inl ⟨h1, by omega, by simp [h2]⟩)
    · exact .inl ⟨by omega, by simp [h1]⟩
  generalize asked d x = r at hc ⊢
  obtain ⟨bl, no, st, ea, du, la, ti, lp, bu⟩ := x
  simp only [St.val] at hc ⊢
  rcases hc with ⟨h1, rfl⟩ | ⟨h1, h2, rfl⟩ | ⟨h1, h2, h3, rfl⟩ | ⟨h1, h2, h3, rfl⟩
  all_goals
    go_enter Try.func73, Try.ntmps73
    go_wp2
    go_ret
    exact ⟨rfl, by repeat (first | exact Below.refl _ _ | refine bl_plus ?_ | refine bl_alloc ?_ _ | refine bl_drew ?_)⟩

end Go.Proofs.Ytokghdcfbbogdaa
