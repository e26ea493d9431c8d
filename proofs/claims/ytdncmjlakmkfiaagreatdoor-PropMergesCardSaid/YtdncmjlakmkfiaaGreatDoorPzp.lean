/-
  WALK: Get.
-/
import Derived.Test.YtdncmjlakmkfiaaGreatDoorPzo
set_option linter.all false
namespace Go.Proofs.YtdncmjlakmkfiaaGreatDoor
open Go.RowKit Go.Lib

def GetIs (l : List PR) (x : ByteArray) (v : V) (b : Bool) : Prop :=
  (firstIdx (prIs l x) l.length = none ∧ v = .mk 0 0 0 ⟨#[]⟩ [] ∧ b = false) ∨ ∃ k, ∃ h : k < l.length, firstIdx (prIs l x) l.length = some k ∧ v = l[k].v ∧ b = true

theorem GetIs.same {l : List PR} {x : ByteArray} {v v' : V} {b b' : Bool} (h1 : GetIs l x v b) (h2 : GetIs l x v' b') : v = v' ∧ b = b' := by
  rcases h1 with ⟨h1, rfl, rfl⟩ | ⟨k, hk, h1, rfl, rfl⟩ <;> rcases h2 with ⟨h2, rfl, rfl⟩ | ⟨k', hk', h2, rfl, rfl⟩
  · exact ⟨rfl, rfl⟩
  · rw [h1] at h2; cases h2
  · rw [h1] at h2; cases h2
  · rw [h1] at h2
    obtain rfl := Option.some.inj h2
    exact ⟨rfl, rfl⟩

theorem plus_heap_swapP {B B' : World} {O : Array Obj} {n n' g : Nat} (hs : B.heap.size = B'.heap.size) (hg : B.heap.size ≤ g) : (plus B O n).heap[g]? = (plus B' O n').heap[g]? := by
  unfold plus
  simp only [Array.getElem?_append]
  rw [if_neg (by omega), if_neg (by omega), hs]

/-- A value and a word are handed back. -/
def GOut (l : List PR) (x : ByteArray) (w : World) (e : Ending) (w' : World) : Prop :=
  ∃ v A c b, e = .returned (.tuple #[v.arg A c, .bool b]) ∧ LAt w' A v.l ∧ GetIs l x v b ∧ Below w.heap.size w w'

theorem getR_any (A : Option Addr) (c : Nat) (l : List PR) (x : ByteArray) (w : World) (hA : PsAt w A l) :
    Calls Tryz.prog 45 #[.slice A l.length c, .string x] w (GOut l x w) := by
  refine (getOf_any A c l x w hA).mono ?_
  rintro e w' ⟨hb, ⟨k, hk, A2, c2, h, rfl, hL⟩ | ⟨h, rfl⟩⟩
  · exact ⟨l[k].v, A2, c2, true, rfl, hL.below hb, .inr ⟨k, hk, h, rfl, rfl⟩, hb⟩
  · exact ⟨.mk 0 0 0 ⟨#[]⟩ [], none, 0, false, rfl, lAt_nil w', .inl ⟨h, rfl, rfl⟩, hb⟩

set_option maxHeartbeats 6400000 in
set_option maxRecDepth 100000 in
theorem get_any (A : Option Addr) (c : Nat) (ps : List CP) (x : ByteArray) (w : World) (hA : PsC w A ps) (hfit : ∀ p ∈ ps, p.q.x.fits) (hps : PsAt w A (ps.map CP.pr)) :
    Calls Tryz.prog 38 #[.slice A ps.length c, .string x] w (GOut (ps.map CP.pr) x w) := by
  have HFD := hide (fun W (hb : Below w.heap.size w W) => find_any A c (ps.map CP.pr) x W (hps.below hb))
  simp only [List.length_map] at HFD
  have HPO : Hid (∀ v A c b w', LAt w' A v.l → GetIs (ps.map CP.pr) x v b → Below w.heap.size w w' → GOut (ps.map CP.pr) x w (.returned (.tuple #[v.arg A c, .bool b])) w') :=
    hide fun v A c b w' h1 h2 h3 => ⟨v, A, c, b, rfl, h1, h2, h3⟩
  generalize hPO : GOut (ps.map CP.pr) x w = PO at *
  clear hPO hps
  cases hR : firstIdx (prIs (ps.map CP.pr) x) ps.length with
  | none =>
    have hfin : GetIs (ps.map CP.pr) x (.mk 0 0 0 ⟨#[]⟩ []) false := .inl ⟨by rw [List.length_map]; exact hR, rfl, rfl⟩
    have HFIN := hide (fun w' hb => HPO.out (.mk 0 0 0 ⟨#[]⟩ []) none 0 false w' (lAt_nil w') hfin hb)
    simp only [V.arg, V.k, V.i, V.t, V.s, V.l, List.length_nil] at HFIN
    rw [hR] at HFD
    simp only [idxInt] at HFD
    clear hfin hR hA hfit
    go_enter Tryz.func38, Tryz.ntmps38
    go_wp2_with (go_at_call 77; refine (HFD.out _ ?hbw).mono ?_; (case hbw => exact (by repeat (first | exact Below.refl _ _ | refine bl_plus ?_ | refine bl_alloc ?_ _ | refine bl_drew ?_ | refine bl_drewN ?_ _))); rintro e w' ⟨rfl, hbl⟩; obtain ⟨os1, n1, rfl⟩ := below_plus hbl; clear hbl)
    refine bodyPost_ret (v := .tuple #[.agg #[.int .i64 0, .int .i64 0, .int .i64 0, .string ⟨#[]⟩, .slice none 0 0], .bool false]) (by simp [results, Tryz.results38, go_sem]) rfl ?_
    exact HFIN.out _ (by repeat (first | exact Below.refl _ _ | refine bl_plus ?_ | refine bl_alloc ?_ _ | refine bl_drew ?_ | refine bl_drewN ?_ _))
  | some q =>
    have hq : q < ps.length := (firstIdx_lt hR).1
    obtain ⟨b, o, rfl, hb, hcell⟩ := hA.cells (by omega)
    have c1 := hcell q hq 1 (by omega)
    have c2 := hcell q hq 2 (by omega)
    have c3 := hcell q hq 3 (by omega)
    have c4 := hcell q hq 4 (by omega)
    have c5 := hcell q hq 5 (by omega)
    have hins := hA.ins ps[q] (List.getElem_mem hq)
    have hft := hfit ps[q] (List.getElem_mem hq)
    have hfin : GetIs (ps.map CP.pr) x ps[q].q.x true := .inr ⟨q, by rw [List.length_map]; exact hq, by rw [List.length_map]; exact hR, by rw [List.getElem_map]; rfl, rfl⟩
    have i1 : (q : Int) < (ps.length : Int) := by omega
    have i2 : ¬ ((q : Int) < 0) := by omega
    rw [hR] at HFD
    simp only [idxInt] at HFD
    clear hcell hR hA hfit
    generalize ps[q] = y at *
    obtain ⟨nm, ⟨xv, A2, e2⟩⟩ := y
    obtain ⟨xk, xi, xt, xs, xl⟩ := xv
    dsimp only [CP.cells, CVal.cells, V.k, V.i, V.t, V.s, V.l] at c1 c2 c3 c4 c5 hins hft hfin
    simp only [List.getElem?_cons_zero, List.getElem?_cons_succ, Nat.add_zero] at c1 c2 c3 c4 c5
    have HCC := hide (fun W (hbw : Below w.heap.size w W) => copyValue_any (.mk xk xi xt xs xl) hft A2 e2 W (LIn.at_ ((hins.frame (w' := W) (fun b hb => hbw.block b hb)).mono (fun b hb => Nat.lt_of_lt_of_le hb hbw.size)) (fun b hb => hb)))
    have HFIN := hide (fun A3 w' hL hb => HPO.out _ A3 xl.length true w' hL hfin hb)
    unfold CopyOut at HCC
    simp only [V.arg, V.k, V.i, V.t, V.s, V.l] at HCC HFIN
    clear hins hft hfin
    go_enter Tryz.func38, Tryz.ntmps38
    go_wp2_with (first | (go_at_call 77; refine (HFD.out _ ?hbw).mono ?_; (case hbw => exact (by repeat (first | exact Below.refl _ _ | refine bl_plus ?_ | refine bl_alloc ?_ _ | refine bl_drew ?_ | refine bl_drewN ?_ _))); rintro e w' ⟨rfl, hbl⟩; obtain ⟨os1, n1, rfl⟩ := below_plus hbl; clear hbl) | (go_at_call 16; refine (HCC.out _ ?hbw).mono ?_; (case hbw => exact (by repeat (first | exact Below.refl _ _ | refine bl_plus ?_ | refine bl_alloc ?_ _ | refine bl_drew ?_ | refine bl_drewN ?_ _))); rintro e w' ⟨A3, rfl, hA3, hl3, hbl⟩; have HL3 := hide hl3; obtain ⟨os2, n2, rfl⟩ := below_plus hbl; clear hA3 hl3 hbl))
    refine bodyPost_ret (v := .tuple #[.agg #[.int .i64 xk, .int .i64 xi, .int .i64 xt, .string xs, .slice A3 xl.length xl.length], .bool true]) (by simp [results, Tryz.results38, go_sem]) rfl ?_
    refine HFIN.out A3 _ ((HL3.out.frame (fun b hb => plus_heap_swapP (by simp only [plus_size, World.size_alloc]) (by have := hb.1; simp only [plus_size, World.size_alloc] at this ⊢; exact this))).at_ (fun b hb => by have := hb.2; simp only [plus_size, World.size_alloc] at this ⊢; exact this)) (by repeat (first | exact Below.refl _ _ | refine bl_plus ?_ | refine bl_alloc ?_ _ | refine bl_drew ?_ | refine bl_drewN ?_ _))

end Go.Proofs.YtdncmjlakmkfiaaGreatDoor
