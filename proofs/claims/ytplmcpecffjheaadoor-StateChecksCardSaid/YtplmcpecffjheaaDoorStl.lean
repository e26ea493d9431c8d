/-
  WALK: the law StateChecks.
-/
import Derived.Test.YtplmcpecffjheaaDoorStd
import Derived.Deep.RegionHeld3
import Derived.Deep.CutRange
namespace Go.Proofs.YtplmcpecffjheaaDoor
open Go.RowKit

theorem run_eql_st (a0 a1 a2 a3 a4 a5 a6 a7 a8 : Int) (w : World) :
    (binOp .eql 23 (.agg #[.int .i64 a0, .int .i64 a1, .int .i64 a2, .int .i64 a3, .int .i64 a4, .int .i64 a5, .int .i64 a6, .int .i64 a7, .int .i64 a8]) (.agg #[.int .i64 a0, .int .i64 a1, .int .i64 a2, .int .i64 a3, .int .i64 a4, .int .i64 a5, .int .i64 a6, .int .i64 a7, .int .i64 a8])).run Tryd.prog w = .ok (.bool true) w := by
  simp [go_sem]
attribute [local go_sem ↓] run_eql_st

set_option maxHeartbeats 6400000 in
set_option maxRecDepth 100000 in
theorem stateChecks_gen (x : St) (w : World) (ht : PowTab w)
    (hck : ∀ w, Calls Tryd.prog 9 #[x.val] w fun e w' => e = .returned (.int .i64 x.err) ∧ Below w.heap.size w w')
    (hsf : ∀ w, Calls Tryd.prog 10 #[x.val] w fun e w' => e = .returned (.int .i64 x.err) ∧ Below w.heap.size w w')
    (hnw : ∀ w, Calls Tryd.prog 7 #[.int .i64 x.bl, .int .i64 x.no] w fun e w' => e = .returned (.tuple #[(St.new x.bl x.no).1.val, .int .i64 (St.new x.bl x.no).2]) ∧ Below w.heap.size w w')
    (hno : ∀ w, Calls Tryd.prog 8 #[.int .i64 x.bl, .int .i64 x.no] w fun e w' => e = .returned (.tuple #[(St.new x.bl x.no).1.val, .int .i64 (St.new x.bl x.no).2]) ∧ Below w.heap.size w w') :
    Calls Tryd.prog 3 #[x.val] w fun e w' => e = .returned (.bool true) ∧ Below w.heap.size w w' := by
  have h1 := fun w ht => stateText_any x w ht hck
  have h2 := fun w ht => stateString_any x w ht hsf
  unfold TextOut at h1 h2
  generalize (if x.err = 0 then stateS x else ⟨#[]⟩) = S at *
  generalize x.err = r at *
  generalize St.new x.bl x.no = q at *
  obtain ⟨⟨y0, y1, y2, y3, y4, y5, y6, y7, y8⟩, q2⟩ := q
  obtain ⟨b0, b1, b2, b3, b4, b5, b6, b7, b8⟩ := x
  simp only [St.val] at h1 h2 hck hsf hnw hno ⊢
  have H1 := hide h1
  have H2 := hide h2
  have HCK := hide hck
  have HSF := hide hsf
  have HNW := hide hnw
  have HNO := hide hno
  have HT := hide ht
  clear h1 h2 hck hsf hnw hno ht
  go_enter Tryd.func3, Tryd.ntmps3
  go_upto_region 5 with (first
    | (go_at_call 5; refine (H1.out _ (powTab_below HT.out (by repeat (first | exact Below.refl _ _ | refine bl_plus ?_ | refine bl_alloc ?_ _ | refine bl_drew ?_)))).mono ?_; rintro e w' ⟨rfl, hbl⟩; obtain ⟨os1, n1, rfl⟩ := below_plus hbl; clear hbl)
    | (go_at_call 6; refine (H2.out _ (powTab_below HT.out (by repeat (first | exact Below.refl _ _ | refine bl_plus ?_ | refine bl_alloc ?_ _ | refine bl_drew ?_)))).mono ?_; rintro e w' ⟨rfl, hbl⟩; obtain ⟨os2, n2, rfl⟩ := below_plus hbl; clear hbl)
    | (go_at_call 7; refine (HNW.out _).mono ?_; rintro e w' ⟨rfl, hbl⟩; obtain ⟨os3, n3, rfl⟩ := below_plus hbl; clear hbl)
    | (go_at_call 8; refine (HNO.out _).mono ?_; rintro e w' ⟨rfl, hbl⟩; obtain ⟨os4, n4, rfl⟩ := below_plus hbl; clear hbl))
  have hbw : Below w.heap.size w ((plus ((plus (plus (plus (w.alloc (.cells #[.int .i64 b0, .int .i64 b1, .int .i64 b2, .int .i64 b3, .int .i64 b4, .int .i64 b5, .int .i64 b6, .int .i64 b7, .int .i64 b8] 23)) os1 n1) os2 n2) os3 n3).alloc (.cells #[.int .i64 y0, .int .i64 y1, .int .i64 y2, .int .i64 y3, .int .i64 y4, .int .i64 y5, .int .i64 y6, .int .i64 y7, .int .i64 y8] 23)) os4 n4).alloc (.cells #[.int .i64 y0, .int .i64 y1, .int .i64 y2, .int .i64 y3, .int .i64 y4, .int .i64 y5, .int .i64 y6, .int .i64 y7, .int .i64 y8] 23)) := (by repeat (first | exact Below.refl _ _ | refine bl_plus ?_ | refine bl_alloc ?_ _ | refine bl_drew ?_))
  have e1 := Blk.nine (show Blk ((plus ((plus (plus (plus (w.alloc (.cells #[.int .i64 b0, .int .i64 b1, .int .i64 b2, .int .i64 b3, .int .i64 b4, .int .i64 b5, .int .i64 b6, .int .i64 b7, .int .i64 b8] 23)) os1 n1) os2 n2) os3 n3).alloc (.cells #[.int .i64 y0, .int .i64 y1, .int .i64 y2, .int .i64 y3, .int .i64 y4, .int .i64 y5, .int .i64 y6, .int .i64 y7, .int .i64 y8] 23)) os4 n4).alloc (.cells #[.int .i64 y0, .int .i64 y1, .int .i64 y2, .int .i64 y3, .int .i64 y4, .int .i64 y5, .int .i64 y6, .int .i64 y7, .int .i64 y8] 23)) w.heap.size 23 #[.int .i64 b0, .int .i64 b1, .int .i64 b2, .int .i64 b3, .int .i64 b4, .int .i64 b5, .int .i64 b6, .int .i64 b7, .int .i64 b8] from by repeat (first | exact Blk.new _ _ _ | refine Blk.alloc ?_ _ | refine Blk.plus ?_))
  have e2 := Blk.nine (show Blk ((plus ((plus (plus (plus (w.alloc (.cells #[.int .i64 b0, .int .i64 b1, .int .i64 b2, .int .i64 b3, .int .i64 b4, .int .i64 b5, .int .i64 b6, .int .i64 b7, .int .i64 b8] 23)) os1 n1) os2 n2) os3 n3).alloc (.cells #[.int .i64 y0, .int .i64 y1, .int .i64 y2, .int .i64 y3, .int .i64 y4, .int .i64 y5, .int .i64 y6, .int .i64 y7, .int .i64 y8] 23)) os4 n4).alloc (.cells #[.int .i64 y0, .int .i64 y1, .int .i64 y2, .int .i64 y3, .int .i64 y4, .int .i64 y5, .int .i64 y6, .int .i64 y7, .int .i64 y8] 23)) (w.heap.size + 1 + os1.size + os2.size + os3.size) 23 #[.int .i64 y0, .int .i64 y1, .int .i64 y2, .int .i64 y3, .int .i64 y4, .int .i64 y5, .int .i64 y6, .int .i64 y7, .int .i64 y8] from by
    refine Blk.alloc (Blk.plus ?_) _
    have := Blk.new (plus (plus (plus (w.alloc (.cells #[.int .i64 b0, .int .i64 b1, .int .i64 b2, .int .i64 b3, .int .i64 b4, .int .i64 b5, .int .i64 b6, .int .i64 b7, .int .i64 b8] 23)) os1 n1) os2 n2) os3 n3) 23 #[.int .i64 y0, .int .i64 y1, .int .i64 y2, .int .i64 y3, .int .i64 y4, .int .i64 y5, .int .i64 y6, .int .i64 y7, .int .i64 y8]
    simpa [plus_size] using this)
  have e3 := Blk.nine (show Blk ((plus ((plus (plus (plus (w.alloc (.cells #[.int .i64 b0, .int .i64 b1, .int .i64 b2, .int .i64 b3, .int .i64 b4, .int .i64 b5, .int .i64 b6, .int .i64 b7, .int .i64 b8] 23)) os1 n1) os2 n2) os3 n3).alloc (.cells #[.int .i64 y0, .int .i64 y1, .int .i64 y2, .int .i64 y3, .int .i64 y4, .int .i64 y5, .int .i64 y6, .int .i64 y7, .int .i64 y8] 23)) os4 n4).alloc (.cells #[.int .i64 y0, .int .i64 y1, .int .i64 y2, .int .i64 y3, .int .i64 y4, .int .i64 y5, .int .i64 y6, .int .i64 y7, .int .i64 y8] 23)) (w.heap.size + 1 + os1.size + os2.size + os3.size + 1 + os4.size) 23 #[.int .i64 y0, .int .i64 y1, .int .i64 y2, .int .i64 y3, .int .i64 y4, .int .i64 y5, .int .i64 y6, .int .i64 y7, .int .i64 y8] from by
    have := Blk.new (plus ((plus (plus (plus (w.alloc (.cells #[.int .i64 b0, .int .i64 b1, .int .i64 b2, .int .i64 b3, .int .i64 b4, .int .i64 b5, .int .i64 b6, .int .i64 b7, .int .i64 b8] 23)) os1 n1) os2 n2) os3 n3).alloc (.cells #[.int .i64 y0, .int .i64 y1, .int .i64 y2, .int .i64 y3, .int .i64 y4, .int .i64 y5, .int .i64 y6, .int .i64 y7, .int .i64 y8] 23)) os4 n4) 23 #[.int .i64 y0, .int .i64 y1, .int .i64 y2, .int .i64 y3, .int .i64 y4, .int .i64 y5, .int .i64 y6, .int .i64 y7, .int .i64 y8]
    simpa [plus_size] using this)
  generalize ((plus ((plus (plus (plus (w.alloc (.cells #[.int .i64 b0, .int .i64 b1, .int .i64 b2, .int .i64 b3, .int .i64 b4, .int .i64 b5, .int .i64 b6, .int .i64 b7, .int .i64 b8] 23)) os1 n1) os2 n2) os3 n3).alloc (.cells #[.int .i64 y0, .int .i64 y1, .int .i64 y2, .int .i64 y3, .int .i64 y4, .int .i64 y5, .int .i64 y6, .int .i64 y7, .int .i64 y8] 23)) os4 n4).alloc (.cells #[.int .i64 y0, .int .i64 y1, .int .i64 y2, .int .i64 y3, .int .i64 y4, .int .i64 y5, .int .i64 y6, .int .i64 y7, .int .i64 y8] 23)) = V at *
  generalize w.heap.size + 1 + os1.size + os2.size + os3.size + 1 + os4.size = g3 at *
  generalize w.heap.size + 1 + os1.size + os2.size + os3.size = g2 at *
  obtain ⟨a0, a1, a2, a3, a4, a5, a6, a7, a8, _, al⟩ := e1
  obtain ⟨c0, c1, c2, c3, c4, c5, c6, c7, c8, _, cl⟩ := e2
  obtain ⟨d0, d1, d2, d3, d4, d5, d6, d7, d8, _, dl⟩ := e3
  have HBW := hide hbw
  clear hbw
  go_region_held3 (fun w' => w'.cell? ⟨w.heap.size, 0, none⟩ = some (.int .i64 b0) ∧ w'.cell? ⟨w.heap.size, 1, none⟩ = some (.int .i64 b1) ∧ w'.cell? ⟨w.heap.size, 2, none⟩ = some (.int .i64 b2) ∧ w'.cell? ⟨w.heap.size, 3, none⟩ = some (.int .i64 b3) ∧ w'.cell? ⟨w.heap.size, 4, none⟩ = some (.int .i64 b4) ∧ w'.cell? ⟨w.heap.size, 5, none⟩ = some (.int .i64 b5) ∧ w'.cell? ⟨w.heap.size, 6, none⟩ = some (.int .i64 b6) ∧ w'.cell? ⟨w.heap.size, 7, none⟩ = some (.int .i64 b7) ∧ w'.cell? ⟨w.heap.size, 8, none⟩ = some (.int .i64 b8) ∧ w'.cell? ⟨g2, 0, none⟩ = some (.int .i64 y0) ∧ w'.cell? ⟨g2, 1, none⟩ = some (.int .i64 y1) ∧ w'.cell? ⟨g2, 2, none⟩ = some (.int .i64 y2) ∧ w'.cell? ⟨g2, 3, none⟩ = some (.int .i64 y3) ∧ w'.cell? ⟨g2, 4, none⟩ = some (.int .i64 y4) ∧ w'.cell? ⟨g2, 5, none⟩ = some (.int .i64 y5) ∧ w'.cell? ⟨g2, 6, none⟩ = some (.int .i64 y6) ∧ w'.cell? ⟨g2, 7, none⟩ = some (.int .i64 y7) ∧ w'.cell? ⟨g2, 8, none⟩ = some (.int .i64 y8) ∧ w'.cell? ⟨g3, 0, none⟩ = some (.int .i64 y0) ∧ w'.cell? ⟨g3, 1, none⟩ = some (.int .i64 y1) ∧ w'.cell? ⟨g3, 2, none⟩ = some (.int .i64 y2) ∧ w'.cell? ⟨g3, 3, none⟩ = some (.int .i64 y3) ∧ w'.cell? ⟨g3, 4, none⟩ = some (.int .i64 y4) ∧ w'.cell? ⟨g3, 5, none⟩ = some (.int .i64 y5) ∧ w'.cell? ⟨g3, 6, none⟩ = some (.int .i64 y6) ∧ w'.cell? ⟨g3, 7, none⟩ = some (.int .i64 y7) ∧ w'.cell? ⟨g3, 8, none⟩ = some (.int .i64 y8) ∧ w.heap.size < w'.heap.size ∧ g2 < w'.heap.size ∧ g3 < w'.heap.size) (simp [*, plus_cell, plus_size, lt_more1])
    (first
      | (go_at_call 9; refine (HCK.out _).mono ?_; rintro e w' ⟨rfl, hb⟩; obtain ⟨os7, n7, rfl⟩ := below_plus hb; clear hb)
      | (go_at_call 10; refine (HSF.out _).mono ?_; rintro e w' ⟨rfl, hb⟩; obtain ⟨os8, n8, rfl⟩ := below_plus hb; clear hb))
  all_goals go_wp2
  all_goals go_ret
  all_goals exact ⟨rfl, bl_plus (bl_plus HBW.out)⟩

end Go.Proofs.YtplmcpecffjheaaDoor
