/-
  WALKS: the page of a day, in the program.
-/
import Derived.Test.YtioppoaijehicaaGreatDoorDpb
set_option linter.all false
namespace Go.Proofs.YtioppoaijehicaaGreatDoor
open Go.RowKit Go.Lib Go.Maps Go.WideElems Go.WideMaps Go.Shelf

/-- What Daily hands back. -/
noncomputable def dlRes (l : List BK) (d : Int) : Int × Int := if baseErr l ≠ 0 then (0, baseErr l) else if dayErr d ≠ 0 then (0, 2) else match dyF l l.length d with | some p => ((p : Nat), 0) | none => (0, 7)

def DlOut (r : Int × Int) (w : World) (e : Ending) (w' : World) : Prop := e = .returned (.tuple #[.int .i64 r.1, .int .i64 r.2]) ∧ Below w.heap.size w w'

set_option maxHeartbeats 1600000 in
set_option maxRecDepth 100000 in
theorem daily_any (l : List BK) (A : Option Addr) (c : Nat) (w : World) (hA : BsAt w A l) (hk : ∀ b ∈ l, ∀ k ∈ b.kids, In64 k) (hmt : MaxTold w) (d : Int) (h64 : In64 d) :
    Calls Tryz.prog 6 #[.slice A l.length c, .int .i64 d] w (DlOut (dlRes l d) w) := by
  have HPO : Hid (∀ (a b : Int) w', dlRes l d = (a, b) → Below w.heap.size w w' → DlOut (dlRes l d) w (.returned (.tuple #[.int .i64 a, .int .i64 b])) w') := hide fun a b w' h1 h2 => by rw [h1]; exact ⟨rfl, h2⟩
  generalize DlOut (dlRes l d) w = PO at *
  have HC := hide (check_any l A c w hA hk)
  have HD := hide (fun W => checkDay_any d W)
  have HDY := hide (fun (R : Right l) W (hb : Below w.heap.size w W) => dailies_any l A c W R (hA.below hb) (maxTold_below hmt hb))
  unfold DysOut at HDY
  by_cases he : baseErr l = 0
  · have HY := hide (HDY.out (right_of he))
    rw [he] at HC
    by_cases hd : dayErr d = 0
    · rw [hd] at HD
      cases hf : dyF l l.length d with
      | some p =>
        have HF := hide (fun w' => HPO.out p 0 w' (by unfold dlRes; rw [if_neg (fun h => h he), if_neg (fun h => h hd), hf]))
        clear HPO HDY hA hk hmt he hd
        go_enter Tryz.func6, Tryz.ntmps6
        go_wp2_with (first
          | (go_at_call 23; refine HC.out.mono ?_; rintro e w1 ⟨rfl, hb1⟩)
          | (go_at_call 24; refine (HD.out _).mono ?_; rintro e w2 ⟨rfl, rfl⟩)
          | (go_at_call 25; refine (HY.out _ hb1).mono ?_; rintro e w3 ⟨g, n, D, rfl, -, hN, -, hb3⟩; have hlk := hN.lookOk h64; rw [hf] at hlk; have hb4 := below_chainT hb1 hb3))
        exact HF.out _ hb4
      | none =>
        have HF := hide (fun w' => HPO.out 0 7 w' (by unfold dlRes; rw [if_neg (fun h => h he), if_neg (fun h => h hd), hf]))
        clear HPO HDY hA hk hmt he hd
        go_enter Tryz.func6, Tryz.ntmps6
        go_wp2_with (first
          | (go_at_call 23; refine HC.out.mono ?_; rintro e w1 ⟨rfl, hb1⟩)
          | (go_at_call 24; refine (HD.out _).mono ?_; rintro e w2 ⟨rfl, rfl⟩)
          | (go_at_call 25; refine (HY.out _ hb1).mono ?_; rintro e w3 ⟨g, n, D, rfl, -, hN, -, hb3⟩; have hlk := hN.lookOk h64; rw [hf] at hlk; have hb4 := below_chainT hb1 hb3))
        exact HF.out _ hb4
    · have h2 : dayErr d = 2 := by unfold dayErr at hd ⊢; split at hd <;> first | (rw [if_pos ‹_›]) | exact absurd rfl hd
      have HF := hide (fun w' => HPO.out 0 2 w' (by unfold dlRes; rw [if_neg (fun h => h he), if_pos hd]))
      rw [h2] at HD
      clear HPO HDY HY hA hk hmt he hd h2
      go_enter Tryz.func6, Tryz.ntmps6
      go_wp2_with (first
        | (go_at_call 23; refine HC.out.mono ?_; rintro e w1 ⟨rfl, hb1⟩)
        | (go_at_call 24; refine (HD.out _).mono ?_; rintro e w2 ⟨rfl, rfl⟩))
      exact HF.out _ hb1
  · have HF := hide (fun w' => HPO.out 0 (baseErr l) w' (by unfold dlRes; rw [if_pos he]))
    have e1 : (baseErr l != 0) = true := bne_iff_ne.2 he
    clear HPO HDY HD hA hk hmt he
    generalize baseErr l = E at *
    go_enter Tryz.func6, Tryz.ntmps6
    go_wp2_with (go_at_call 23; refine HC.out.mono ?_; rintro e w1 ⟨rfl, hb1⟩)
    exact HF.out _ hb1

end Go.Proofs.YtioppoaijehicaaGreatDoor
