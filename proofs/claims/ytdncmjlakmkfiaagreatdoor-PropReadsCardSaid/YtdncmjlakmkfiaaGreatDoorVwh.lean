/-
  WALK: Read, in the program.
-/
import Derived.Test.YtdncmjlakmkfiaaGreatDoorVwg
import Derived.Test.YtdncmjlakmkfiaaGreatDoorPvl
set_option linter.all false
namespace Go.Proofs.YtdncmjlakmkfiaaGreatDoor
open Go.RowKit

/-- What Read answers. -/
def readV (s : ByteArray) : V × Int := if 400000 < s.size then (vN, 4) else if (rdV s.data.toList).2 = 0 then (if (rdV s.data.toList).1.err = 0 then ((rdV s.data.toList).1, 0) else (vN, (rdV s.data.toList).1.err)) else (vN, (rdV s.data.toList).2)

def ReadOut (w : World) (q : V × Int) (e : Ending) (w' : World) : Prop := ∃ (A : Option Addr) (c : Nat), e = .returned (.tuple #[q.1.arg A c, .int .i64 q.2]) ∧ LAt w' A q.1.l ∧ Below w.heap.size w w'

/-- The world of a function that hands out a value, which lies at the first new block. -/
structure Sr (w W : World) : Prop where
  blk : Blk W w.heap.size 24 zVal
  bel : Below w.heap.size w W
section
variable {w W W' : World}

theorem Sr.start : Sr w (w.alloc (.cells zVal 24)) := ⟨Blk.new w _ _, bl_alloc (Below.refl _ _) _⟩

theorem Sr.below (h : Sr w W) (hb : Below W.heap.size W W') : Sr w W' := ⟨h.blk.below hb h.blk.lt, h.bel.trans (hb.mono (Nat.le_of_lt h.blk.lt))⟩

theorem Sr.alloc (h : Sr w W) (o : Obj) : Sr w (W.alloc o) := h.below (bl_alloc (Below.refl _ _) _)

theorem Sr.plus (h : Sr w W) (os : Array Obj) (n : Nat) : Sr w (plus W os n) := h.below (bl_plus (Below.refl _ _))

theorem Sr.cells (h : Sr w W) : (W.cell? ⟨w.heap.size, 0, none⟩ = some (.int .i64 0) ∧ W.cell? ⟨w.heap.size, 1, none⟩ = some (.int .i64 0) ∧ W.cell? ⟨w.heap.size, 2, none⟩ = some (.int .i64 0) ∧ W.cell? ⟨w.heap.size, 3, none⟩ = some (.string ⟨#[]⟩) ∧ W.cell? ⟨w.heap.size, 4, none⟩ = some (.slice none 0 0) ∧
    W.frozen? ⟨w.heap.size, 0, none⟩ = false ∧ W.frozen? ⟨w.heap.size, 1, none⟩ = false ∧ W.frozen? ⟨w.heap.size, 2, none⟩ = false ∧ W.frozen? ⟨w.heap.size, 3, none⟩ = false ∧ W.frozen? ⟨w.heap.size, 4, none⟩ = false ∧ w.heap.size < W.heap.size) :=
  ⟨h.blk.cell 0, h.blk.cell 1, h.blk.cell 2, h.blk.cell 3, h.blk.cell 4, h.blk.frozen 0, h.blk.frozen 1, h.blk.frozen 2, h.blk.frozen 3, h.blk.frozen 4, h.blk.lt⟩

theorem Sr.end (h : Sr w W) (v0 v1 v2 v3 v4 : Value) : Blk (((((W.setCell ⟨w.heap.size, 0, none⟩ v0).setCell ⟨w.heap.size, 1, none⟩ v1).setCell ⟨w.heap.size, 2, none⟩ v2).setCell ⟨w.heap.size, 3, none⟩ v3).setCell ⟨w.heap.size, 4, none⟩ v4) w.heap.size 24 #[v0, v1, v2, v3, v4] ∧
    Below w.heap.size w (((((W.setCell ⟨w.heap.size, 0, none⟩ v0).setCell ⟨w.heap.size, 1, none⟩ v1).setCell ⟨w.heap.size, 2, none⟩ v2).setCell ⟨w.heap.size, 3, none⟩ v3).setCell ⟨w.heap.size, 4, none⟩ v4) :=
  ⟨five_set h.blk, h.bel.trans (((((Below.refl w.heap.size W).setCell (p := ⟨w.heap.size, 0, none⟩) (Nat.le_refl _) v0).setCell (p := ⟨w.heap.size, 1, none⟩) (Nat.le_refl _) v1).setCell (p := ⟨w.heap.size, 2, none⟩) (Nat.le_refl _) v2).setCell (p := ⟨w.heap.size, 3, none⟩) (Nat.le_refl _) v3 |>.setCell (p := ⟨w.heap.size, 4, none⟩) (Nat.le_refl _) v4)⟩
end

theorem below_end {w W W' : World} (h : Below w.heap.size w W) (hb : Below W.heap.size W W') (hs : w.heap.size ≤ W.heap.size) : Below w.heap.size w W' := h.trans (hb.mono hs)

theorem flat_fits {x : V} (h : x.l.length ≤ 400001) (hf : ∀ y ∈ x.l, y.l = []) : x.fits := by
  rw [V.fits_iff]
  refine ⟨by omega, fun j hj => ?_⟩
  rw [V.fits_iff, hf _ (List.getElem_mem hj)]
  exact ⟨by simp, fun i hi => absurd hi (by simp)⟩

set_option maxHeartbeats 3200000 in
set_option maxRecDepth 100000 in
theorem read_any (s : ByteArray) (w : World) (hp : PowTab w) (hm : MaxTold w) :
    Calls Tryz.prog 6 #[.string s] w (ReadOut w (readV s)) := by
  have HS := hide (Sr.start (w := w))
  obtain ⟨d0, d1, d2, d3, d4, y0, y1, y2, y3, y4, hg⟩ := HS.out.cells
  generalize hQ : readV s = Q
  unfold readV at hQ
  by_cases hs : 400000 < s.size
  · rw [if_pos hs] at hQ
    subst hQ
    go_enter Tryz.func6, Tryz.ntmps6
    go_wp2
    go_returns
    exact ⟨none, 0, rfl, LIn.nil.at_ (P := fun _ => False) (fun b hb => hb.elim), (by repeat (first | exact Below.refl _ _ | with_reducible refine bl_plus ?_ | with_reducible refine bl_alloc ?_ _ | with_reducible refine bl_drew ?_ | with_reducible refine bl_drewN ?_ _))⟩
  · rw [if_neg hs] at hQ
    have HR := hide (fun W (hb : Below w.heap.size w W) => readValue_any s W (by omega) (powTab_below hp hb) (maxTold_below hm hb))
    generalize rdV s.data.toList = q at *
    obtain ⟨x, code⟩ := q
    simp only at hQ HR
    have HC := hide (fun (A : Option Addr) (c : Nat) (W : World) (hL : LAt W A x.l) => checkValue_any x A c W hL)
    have HCP := hide (fun (hlf : x.l.length ≤ 400001 ∧ ∀ y ∈ x.l, y.l = []) (A : Option Addr) (c : Nat) (W : World) (hL : LAt W A x.l) => copyValue_any x (flat_fits hlf.1 hlf.2) A c W hL)
    clear hp hm
    by_cases hc : code = 0
    · subst hc
      rw [if_pos rfl] at hQ
      by_cases he : x.err = 0
      · rw [if_pos he] at hQ
        subst hQ
        rw [he] at HC
        clear he
        go_enter Tryz.func6, Tryz.ntmps6
        go_wp2_with (first | (go_at_call 14; (refine (HR.out _ (by repeat (first | exact Below.refl _ _ | with_reducible refine bl_plus ?_ | with_reducible refine bl_alloc ?_ _ | with_reducible refine bl_drew ?_ | with_reducible refine bl_drewN ?_ _))).mono ?_); rintro e W1 ⟨A, c, rfl, hlin, hlen, hfl, hbl⟩; have HLA := hide (hlin.at_ (fun b hb => hb.2)); have HLF := hide (And.intro hlen hfl); have HS1 := hide (HS.out.below hbl); clear d0 d1 d2 d3 d4 y0 y1 y2 y3 y4 hg; clear HS hlin hlen hfl hbl; have HS := HS1; clear HS1; obtain ⟨d0, d1, d2, d3, d4, y0, y1, y2, y3, y4, hg⟩ := HS.out.cells; have HG1 := hide hg; (try simp only [V.arg])) | (go_at_call 15; (refine (HC.out _ _ _ (HLA.out.below (by repeat (first | exact Below.refl _ _ | with_reducible refine bl_plus ?_ | with_reducible refine bl_alloc ?_ _ | with_reducible refine bl_drew ?_ | with_reducible refine bl_drewN ?_ _)))).mono ?_); rintro e w' ⟨rfl, hbl⟩; obtain ⟨os2, n2, rfl⟩ := below_plus hbl; clear hbl) | (go_at_call 16; (refine (HCP.out HLF.out _ _ _ (HLA.out.below (by repeat (first | exact Below.refl _ _ | with_reducible refine bl_plus ?_ | with_reducible refine bl_alloc ?_ _ | with_reducible refine bl_drew ?_ | with_reducible refine bl_drewN ?_ _)))).mono ?_); rintro e W2 ⟨A2, rfl, hA2, hl2, hb2⟩; have HL2 := hide hl2; have HS1 := hide (((HS.out.alloc _).plus _ _).below hb2); clear d0 d1 d2 d3 d4 y0 y1 y2 y3 y4 hg; clear HS HLA hA2 hl2 hb2; have HS := HS1; clear HS1; obtain ⟨d0, d1, d2, d3, d4, y0, y1, y2, y3, y4, hg⟩ := HS.out.cells; (try simp only [V.arg])))
        refine bodyPost_ret (res_cellV (P := Tryz.prog) (fn := Tryz.f6) (p := 2) (u := 3) rfl _ _ _ 24 #[.int .i64 x.k, .int .i64 x.i, .int .i64 x.t, .string x.s, .slice A2 x.l.length x.l.length] (0, 0) _ rfl (HS.out.end _ _ _ _ _).1 Tryz.underlying24 rfl (by kernel_rfl)) rfl ?_
        refine ⟨A2, x.l.length, rfl, (HL2.out.frame fun b hb => five_far (by have h9 := hb.1; have h8 := HG1.out; simp only [plus_size, World.size_alloc] at h9; omega)).at_ (fun b hb => ?_), (HS.out.end _ _ _ _ _).2⟩
        rw [five_size]
        exact hb.2
      · rw [if_neg he] at hQ
        subst hQ
        have he2 : (x.err != 0) = true := bne_iff_ne.2 he
        clear he
        generalize x.err = E at *
        go_enter Tryz.func6, Tryz.ntmps6
        go_wp2_with (first | (go_at_call 14; (refine (HR.out _ (by repeat (first | exact Below.refl _ _ | with_reducible refine bl_plus ?_ | with_reducible refine bl_alloc ?_ _ | with_reducible refine bl_drew ?_ | with_reducible refine bl_drewN ?_ _))).mono ?_); rintro e W1 ⟨A, c, rfl, hlin, hlen, hfl, hbl⟩; have HLA := hide (hlin.at_ (fun b hb => hb.2)); have HLF := hide (And.intro hlen hfl); have HS1 := hide (HS.out.below hbl); clear d0 d1 d2 d3 d4 y0 y1 y2 y3 y4 hg; clear HS hlin hlen hfl hbl; have HS := HS1; clear HS1; obtain ⟨d0, d1, d2, d3, d4, y0, y1, y2, y3, y4, hg⟩ := HS.out.cells; have HG1 := hide hg; (try simp only [V.arg])) | (go_at_call 15; (refine (HC.out _ _ _ (HLA.out.below (by repeat (first | exact Below.refl _ _ | with_reducible refine bl_plus ?_ | with_reducible refine bl_alloc ?_ _ | with_reducible refine bl_drew ?_ | with_reducible refine bl_drewN ?_ _)))).mono ?_); rintro e w' ⟨rfl, hbl⟩; obtain ⟨os2, n2, rfl⟩ := below_plus hbl; clear hbl))
        refine bodyPost_ret (res_cellV (P := Tryz.prog) (fn := Tryz.f6) (p := 2) (u := 3) rfl _ _ _ 24 #[.int .i64 0, .int .i64 0, .int .i64 0, .string ⟨#[]⟩, .slice none 0 0] (0, 0) _ rfl ((HS.out.end _ _ _ _ _).1.alloc _).plus Tryz.underlying24 rfl (by kernel_rfl)) rfl ?_
        exact ⟨none, 0, rfl, LIn.nil.at_ (P := fun _ => False) (fun b hb => hb.elim), plus_below ((HS.out.end _ _ _ _ _).2.alloc (by rw [five_size]; exact Nat.le_of_lt hg) _) (by rw [World.size_alloc, five_size]; omega)⟩
    · rw [if_neg hc] at hQ
      subst hQ
      have hc1 : (code == 0) = false := beq_eq_false_iff_ne.2 hc
      have hc2 : (code != 0) = true := bne_iff_ne.2 hc
      clear hc
      go_enter Tryz.func6, Tryz.ntmps6
      go_wp2_with (first | (go_at_call 14; (refine (HR.out _ (by repeat (first | exact Below.refl _ _ | with_reducible refine bl_plus ?_ | with_reducible refine bl_alloc ?_ _ | with_reducible refine bl_drew ?_ | with_reducible refine bl_drewN ?_ _))).mono ?_); rintro e W1 ⟨A, c, rfl, hlin, hlen, hfl, hbl⟩; have HLA := hide (hlin.at_ (fun b hb => hb.2)); have HLF := hide (And.intro hlen hfl); have HS1 := hide (HS.out.below hbl); clear d0 d1 d2 d3 d4 y0 y1 y2 y3 y4 hg; clear HS hlin hlen hfl hbl; have HS := HS1; clear HS1; obtain ⟨d0, d1, d2, d3, d4, y0, y1, y2, y3, y4, hg⟩ := HS.out.cells; have HG1 := hide hg; (try simp only [V.arg])))
      refine bodyPost_ret (res_cellV (P := Tryz.prog) (fn := Tryz.f6) (p := 2) (u := 3) rfl _ _ _ 24 #[.int .i64 0, .int .i64 0, .int .i64 0, .string ⟨#[]⟩, .slice none 0 0] (0, 0) _ rfl ((HS.out.end _ _ _ _ _).1.alloc _) Tryz.underlying24 rfl (by kernel_rfl)) rfl ?_
      exact ⟨none, 0, rfl, LIn.nil.at_ (P := fun _ => False) (fun b hb => hb.elim), (HS.out.end _ _ _ _ _).2.alloc (by rw [five_size]; exact Nat.le_of_lt hg) _⟩


end Go.Proofs.YtdncmjlakmkfiaaGreatDoor
