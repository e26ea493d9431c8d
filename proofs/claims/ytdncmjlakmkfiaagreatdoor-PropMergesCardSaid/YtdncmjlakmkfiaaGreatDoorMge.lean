/-
  WALK: the reference's way to put a value.
-/
import Derived.Test.YtdncmjlakmkfiaaGreatDoorMgd
set_option linter.all false
namespace Go.Proofs.YtdncmjlakmkfiaaGreatDoor
open Go.RowKit

set_option maxHeartbeats 3200000 in
set_option maxRecDepth 100000 in
theorem add_any (B g : Nat) (A : Option Addr) (c : Nat) (qs : List CVal) (x : V) (A2 : Option Addr) (c2 : Nat) (w : World) (gh : Nat) (hh : w.cell? ⟨gh, 0, none⟩ = some (.func (.func 85) #[] #[])) (hgh : gh < w.heap.size) (hM : MB B 24 #[.int .i64 7, .int .i64 0, .int .i64 0, .string ⟨#[]⟩] w g A c qs) (hx : LIn w (fun b => b < B) A2 x.l) (hlen : qs.length ≤ 200000) :
    Calls Tryz.prog 88 #[x.arg A2 c2, .pointer (some ⟨gh, 0, none⟩), .pointer (some ⟨g, 0, none⟩)] w fun e w' => e = .returned (.tuple #[]) ∧ ∃ A' c' qs', MB B 24 #[.int .i64 7, .int .i64 0, .int .i64 0, .string ⟨#[]⟩] w' g A' c' qs' ∧ qs'.map (·.x) = putV (qs.map (·.x)) x ∧ qs'.length ≤ qs.length + 1 ∧ Below g w w' := by
  obtain ⟨iP, hiP, hzP0, hzP1, hzP2⟩ := info_parts info_valM
  have HIP := hide (And.intro hiP (And.intro hzP0 (And.intro hzP1 hzP2)))
  clear hiP hzP0 hzP1 hzP2
  have HM := hide hM
  have hlx : LAt w A2 x.l := (hx.mono fun b hb => by have := hM.lo; have := hM.box.lt; omega).at_ fun _ h => h
  have HH := hide (fun W (hb : Below w.heap.size w W) => hasR_any (qs.map (·.x)) x A A2 c c2 W (hM.lat.below hb) (hlx.below hb))
  simp only [List.length_map] at HH
  have HX := hide hx
  have hgw := hM.box.lt
  have d0 : w.cell? ⟨g, 4, none⟩ = some (.slice A qs.length c) := hM.box.cell 4
  have z0 : w.frozen? ⟨g, 4, none⟩ = false := hM.box.frozen 4
  have hml := hM.len
  unfold maxLen at hml
  have HBX := hide (boxV_new w x A2 c2)
  have HPT := hide (show putV (qs.map (·.x)) x = if hasV (qs.map (·.x)) x = true then qs.map (·.x) else qs.map (·.x) ++ [x] from rfl)
  generalize putV (qs.map (·.x)) x = R at *
  clear hM hx hlx
  have ent : ∀ args w, (callFunc 85 args).run Tryz.prog w = .ok (.enter 85 args) w := fun args w => Go.Proofs.enters_of Tryz.func85 (by kernel_rfl) rfl args w
  cases hH : hasV (qs.map (·.x)) x with
  | true =>
    rw [hH] at HH
    have HP2 := hide (show qs.map (·.x) = R by rw [HPT.out, hH]; rfl)
    clear hH HPT
    obtain ⟨xk, xi, xt, xs, xl⟩ := x
    simp only [V.arg, V.k, V.i, V.t, V.s, V.l] at *
    go_enter Tryz.func88, Tryz.ntmps88
    go_wp2_with (go_at_fn 85; (refine (HH.out _ (by repeat (first | exact Below.refl _ _ | with_reducible refine bl_plus ?_ | with_reducible refine bl_alloc ?_ _ | with_reducible refine bl_drew ?_ | with_reducible refine bl_drewN ?_ _))).mono ?_); rintro e w' ⟨rfl, hbl⟩; have HM1 := hide (HM.out.below (below_chain (by repeat (first | exact Below.refl _ _ | with_reducible refine bl_plus ?_ | with_reducible refine bl_alloc ?_ _ | with_reducible refine bl_drew ?_ | with_reducible refine bl_drewN ?_ _)) hbl)); have HBX1 := hide (HBX.out.below hbl); have HB1 := hide (below_chain (w := w) (by repeat (first | exact Below.refl _ _ | with_reducible refine bl_plus ?_ | with_reducible refine bl_alloc ?_ _ | with_reducible refine bl_drew ?_ | with_reducible refine bl_drewN ?_ _)) hbl); clear hbl)
    go_end0
    exact ⟨rfl, A, c, qs, HM1.out, HP2.out, Nat.le_succ _, HB1.out.mono (Nat.le_of_lt hgw)⟩
  | false =>
    rw [hH] at HH
    have HP2 := hide (show qs.map (·.x) ++ [x] = R by rw [HPT.out, hH]; rfl)
    clear hH HPT
    obtain ⟨xk, xi, xt, xs, xl⟩ := x
    simp only [V.arg, V.k, V.i, V.t, V.s, V.l] at *
    go_enter Tryz.func88, Tryz.ntmps88
    go_upto_region 2 with (go_at_fn 85; (refine (HH.out _ (by repeat (first | exact Below.refl _ _ | with_reducible refine bl_plus ?_ | with_reducible refine bl_alloc ?_ _ | with_reducible refine bl_drew ?_ | with_reducible refine bl_drewN ?_ _))).mono ?_); rintro e w' ⟨rfl, hbl⟩; have HM1 := hide (HM.out.below (below_chain (by repeat (first | exact Below.refl _ _ | with_reducible refine bl_plus ?_ | with_reducible refine bl_alloc ?_ _ | with_reducible refine bl_drew ?_ | with_reducible refine bl_drewN ?_ _)) hbl)); have HBX1 := hide (HBX.out.below hbl); have HB1 := hide (below_chain (w := w) (by repeat (first | exact Below.refl _ _ | with_reducible refine bl_plus ?_ | with_reducible refine bl_alloc ?_ _ | with_reducible refine bl_drew ?_ | with_reducible refine bl_drewN ?_ _)) hbl); clear hbl)
    generalize w' = WV at *
    have HGW := hide hgw
    have HXV := hide (HX.out.frame (w' := WV) fun b hb => HB1.out.block b (by have := HM.out.lo; have := HGW.out; omega))
    have HSZ := hide (show (#[.int .i64 7, .int .i64 0, .int .i64 0, .string ⟨#[]⟩] : Array Value).size = 4 from rfl)
    have HGV := hide (show g + 1 ≤ WV.heap.size from HM1.out.box.lt)
    have d1 : WV.cell? ⟨g, 4, none⟩ = some (.slice A qs.length c) := HM1.out.box.cell 4
    obtain ⟨x0, x1, x2, x3, x4, hgx⟩ := HBX1.out
    have HBIG := hide (show (qs.length + 1) * iP.bytes ≤ 140737488355328 ∧ qs.length + 1 ≤ 140737488355328 by have h9 := HIP.out.2.2.2; rw [h9]; omega)
    have hgv : g < WV.heap.size := HM1.out.box.lt
    have hlt1 : (qs.length : Int) < (qs.length : Int) + 1 := by omega
    clear d0 z0 hgw
    (try simp only [V.k, V.i, V.t, V.s, V.l] at x0 x1 x2 x3 x4)
    go_region_law (first | ((refine step_append_b rfl (.tmp 11) (.tmp 14) rfl rfl Tryz.underlying22 HIP.out.1 HIP.out.2.1 HIP.out.2.2.1 (by decide) rfl (by have := HIP.out.2.2.2; omega) (g + 1) qs.length (.slice A qs.length c) (flatCV qs) [.int .i64 0, .int .i64 0, .int .i64 0, .string ⟨#[]⟩, .slice none 0 0] _ rfl (ownK_alloc (by repeat (first | with_reducible exact HM1.out.own | with_reducible refine ownK_drew ?_ | with_reducible refine ownK_drewN ?_ _)) _) rfl (by intro u hu; simp only [List.mem_cons, List.not_mem_nil, or_false] at hu; rcases hu with rfl | rfl | rfl | rfl | rfl <;> rfl) rfl (newN_cells (cs := [.int .i64 0, .int .i64 0, .int .i64 0, .string ⟨#[]⟩, .slice none 0 0]) (by simp only [World.size_alloc, World.drew])) HBIG.out (by have := HGV.out; simp only [World.size_alloc, World.drew]; omega) ?_); (intro v' w1 hown1 hgr1 hfr1); (obtain ⟨A3, c3, rfl, _⟩ := ownK_form hown1); (obtain ⟨g3, rfl⟩ := ownK_some hown1); (have HOW := hide hown1); (have hb1 : Below (g + 1) WV w1 := (Below.mono (by repeat (first | exact Below.refl _ _ | with_reducible refine bl_plus ?_ | with_reducible refine bl_alloc ?_ _ | with_reducible refine bl_drew ?_ | with_reducible refine bl_drewN ?_ _)) HGV.out).grown hgr1 (by have := HGV.out; simp only [World.size_alloc, World.drew]; omega) (fun k hk => (HM1.out.own.lt k hk).1)); (have HBB := hide hb1); (obtain ⟨hg3, hgg, hce⟩ := ownK_at hown1); (have e0 := hce (qs.length * 5) (by omega)); (have e1 := hce (qs.length * 5 + 1) (by omega)); (have e2 := hce (qs.length * 5 + 2) (by omega)); (have e3 := hce (qs.length * 5 + 3) (by omega)); (have e4 := hce (qs.length * 5 + 4) (by omega)); (rw [row_tail0] at e0); (rw [row_tail1] at e1); (rw [row_tail2] at e2); (rw [row_tail3] at e3); (rw [row_tail4] at e4); (obtain ⟨p0, q0⟩ := e0); (obtain ⟨p1, q1⟩ := e1); (obtain ⟨p2, q2⟩ := e2); (obtain ⟨p3, q3⟩ := e3); (obtain ⟨p4, q4⟩ := e4); (have f0 := (hb1.cell (p := ⟨g, 4, none⟩) (Nat.lt_succ_self g)).trans d1); (have f1 := (HM1.out.box.below hb1 (Nat.lt_succ_self g)).frozen 4); (have f2 := (HM1.out.box.below hb1 (Nat.lt_succ_self g)).lt); (have n1 : ¬ g = g3 := by omega); (have n2 : ¬ g3 = g := by omega); (clear hown1 hgr1 hfr1 hb1 hce hgg)))
    all_goals
      go_wp2
      go_end0
      refine ⟨rfl, ?_⟩
      first
      | with_reducible exact put_a HM1.out HBB.out HOW.out HXV.out HSZ.out HB1.out HGW.out HP2.out
      | with_reducible exact put_b HM1.out HBB.out HOW.out HXV.out HSZ.out HB1.out HGW.out HP2.out

end Go.Proofs.YtdncmjlakmkfiaaGreatDoor
