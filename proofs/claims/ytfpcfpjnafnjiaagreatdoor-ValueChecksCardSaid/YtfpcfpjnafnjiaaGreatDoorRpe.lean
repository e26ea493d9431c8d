/-
  WALKS: a Replacer's table is built once.
-/
import Derived.Test.YtfpcfpjnafnjiaaGreatDoorRpd
set_option linter.all false
namespace Go.Proofs.YtfpcfpjnafnjiaaGreatDoor
open Go.RowKit

theorem plus_swapR {B B' : World} {O : Array Obj} {n n' g : Nat} (hs : B.heap.size = B'.heap.size) (hg : B.heap.size ≤ g) : (plus B O n).heap[g]? = (plus B' O n').heap[g]? := by
  unfold plus
  simp only [Array.getElem?_append]
  rw [if_neg (by omega), if_neg (by omega), hs]

set_option maxRecDepth 100000 in
set_option maxHeartbeats 1600000 in
theorem buildOnce_any (g : Nat) (A : Option Addr) (c : Nat) (w : World) (h : Blk w g 196 (repCells 0 1 .nilIface (.slice A 4 c))) (h4 : FourAt w A) :
    Calls Tryz.prog 109 #[.pointer (some ⟨g, 0, none⟩)] w (BuiltOut g w) := by
  obtain ⟨b, o, rfl, hb4⟩ := h4
  have HBU := hide (build_any g b o c w h ⟨b, o, rfl, hb4⟩)
  have k3 := h.cell 3
  have k4 := h.cell 4
  have f3 := h.frozen 3
  have f4 := h.frozen 4
  have hg := h.lt
  replace k3 : w.cell? ⟨g, 3, none⟩ = some .nilIface := k3
  replace k4 : w.cell? ⟨g, 4, none⟩ = some (.slice (some ⟨b, o, none⟩) 4 c) := k4
  have H := hide h
  have HPO := hide (show ∀ gb os n, RepTab (plus w os n) w.heap.size gb → BuiltOut g w (.returned (.tuple #[])) (plus ((w.setCell ⟨g, 3, none⟩ (.iface 317 (.pointer (some ⟨gb, 0, none⟩)))).setCell ⟨g, 4, none⟩ (.slice none 0 0)) os n) from fun gb os n ht => by
    have hs2 : ((w.setCell ⟨g, 3, none⟩ (.iface 317 (.pointer (some ⟨gb, 0, none⟩)))).setCell ⟨g, 4, none⟩ (.slice none 0 0)).heap.size = w.heap.size := by rw [setCell_size, setCell_size]
    have hg2 : w.grownBy ((w.setCell ⟨g, 3, none⟩ (.iface 317 (.pointer (some ⟨gb, 0, none⟩)))).setCell ⟨g, 4, none⟩ (.slice none 0 0)) (some g) := set_grown (set_grown grown_refl)
    have hb2 := (H.out.set_ 3 (.iface 317 (.pointer (some ⟨gb, 0, none⟩)))).set_ 4 (.slice none 0 0)
    have hsz : (plus w os n).heap.size = w.heap.size + os.size := plus_size
    refine ⟨rfl, ⟨hg2.os, hg2.tape, hg2.output, by rw [plus_size]; have := hg2.size; omega, fun k hk hne => (plus_heap (by rw [hs2]; exact hk)).trans (hg2.block k hk hne)⟩, gb, ?_, ht.kept (by rw [plus_size, plus_size, hs2]; exact Nat.le_refl _) (fun k h1 h2 => plus_swapR hs2 (by rw [hs2]; exact h1))⟩
    exact (plus_heap (by rw [hs2]; exact H.out.lt)).trans hb2)
  generalize BuiltOut g w = PO at *
  clear h hb4
  go_enter Tryz.func109, Tryz.ntmps109
  go_wp2_with (go_at_call 194; refine (HBU.out).mono ?_; rintro e w' ⟨gb, rfl, hbl, htab⟩; obtain ⟨os, n, rfl⟩ := below_plus hbl; have HT := hide htab; clear hbl htab)
  go_end0
  exact HPO.out gb os n HT.out

theorem FourAt.grown {w w' : World} {g : Nat} {A : Option Addr} (h : FourAt w A) (hg : w.grownBy w' (some g)) (hne : ∀ b o, A = some ⟨b, o, none⟩ → b ≠ g) : FourAt w' A := by
  obtain ⟨b, o, hA, hlt, e0, e1, e2, e3⟩ := h
  have hb := hne b o hA
  have hc : ∀ i, w'.cell? ⟨b, i, none⟩ = w.cell? ⟨b, i, none⟩ := fun i => World.cell?_of_block (a := ⟨b, i, none⟩) (hg.block b hlt (fun e => hb (Option.some.inj e)))
  exact ⟨b, o, hA, Nat.lt_of_lt_of_le hlt hg.size, (hc _).trans e0, (hc _).trans e1, (hc _).trans e2, (hc _).trans e3⟩

/-- Do, for a Replacer of two bytes that is new. -/
theorem doNew_any (g : Nat) (A : Option Addr) (c : Nat) (w : World) (h : Blk w g 196 (repCells 0 0 .nilIface (.slice A 4 c))) (h4 : FourAt w A) :
    Calls Tryz.prog 108 #[.pointer (some ⟨g, 0, none⟩), .func (.func 109) #[.pointer (some ⟨g, 0, none⟩)] #[]] w fun e w' => e = .returned (.tuple #[]) ∧ w.grownBy w' (some g) ∧
      ∃ gb, Blk w' g 196 (repCells 1 0 (.iface 317 (.pointer (some ⟨gb, 0, none⟩))) (.slice none 0 0)) ∧ RepTab w' w.heap.size gb := by
  refine do_any g A c w h (fun W hW hg => buildOnce_any g A c W hW (h4.grown hg (fun b o hA e => ?_)))
  subst hA e
  obtain ⟨b', o', hA, _, e0, _⟩ := h4
  injection hA with hA
  injection hA with hA1 hA2 _
  subst hA1 hA2
  have hk := h.cell o
  rw [e0] at hk
  match o, hk with
  | 0, hk => injection hk with hk; cases hk
  | 1, hk => injection hk with hk; cases hk
  | 2, hk => injection hk with hk; cases hk
  | 3, hk => injection hk with hk; cases hk
  | 4, hk => injection hk with hk; cases hk
  | o + 5, hk => simp [repCells] at hk

end Go.Proofs.YtfpcfpjnafnjiaaGreatDoor
