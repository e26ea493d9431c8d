/-
  WALK: Snippet.
-/
import Derived.Test.YtfnooipkghfmoaaSnk
import Derived.StringKeys
set_option linter.all false
namespace Go.Proofs.Ytfnooipkghfmoaa
open Go.RowKit Go.Lib Go.Maps

theorem alloc_plus {w : World} {o : Obj} : w.alloc o = plus w #[o] w.drawn := by
  conv => lhs; rw [← plus_nil (w := w)]
  rw [plus_alloc]
  rfl
theorem winTo_le {l : List Wd} {x0 : Wd} {W M : Nat} (h0 : x0.u ≤ M) (h : ∀ x ∈ l, x.u ≤ M) : winTo l x0 W ≤ M := by
  have := winPart_le (W := W) h0 h l.length (Nat.le_refl _)
  unfold winPart at this
  rw [List.take_length] at this
  exact this
theorem marksOf_take {fl : List Wd} {x0 : Wd} {TO q : Nat} (h : q < fl.length) : marksOf (fl.take (q + 1)) x0 TO = if x0.f ≤ fl[q].f ∧ fl[q].u ≤ TO then marksOf (fl.take q) x0 TO ++ [fl[q]] else marksOf (fl.take q) x0 TO := by
  unfold marksOf
  rw [List.take_succ_eq_append_getElem h, List.filter_append]
  by_cases hc : x0.f ≤ fl[q].f ∧ fl[q].u ≤ TO
  · rw [if_pos hc]
    simp [hc]
  · rw [if_neg hc, List.filter_cons_of_neg (by simpa using hc)]
    simp
theorem marksOf_len (fl : List Wd) (x0 : Wd) (TO : Nat) : (marksOf fl x0 TO).length ≤ fl.length := List.length_filter_le _ _
theorem own_sameQ (A : Option Addr) (n c m d : Nat) : (Value.slice A n c).ownBlock = (Value.slice A m d).ownBlock := by cases A <;> rfl

set_option maxHeartbeats 25600000 in
set_option maxRecDepth 100000 in
theorem snippet_any (s : ByteArray) (cs : List Cq) (Wd0 : Int) (A : Option Addr) (c : Nat) (w : World) (hs : s.size ≤ 1900000) (hA : CqsAt w A cs) (hN : nParts cs ≤ 1048576) (hL : cs.length ≤ 1048576) (hB : ∀ x ∈ cs, ∀ p ∈ x.ps, p.ws.length ≤ 1048576 ∧ ∀ y ∈ p.ws, y.size ≤ 1900000) :
    Calls Try.prog 5 #[.string s, .agg #[.slice A cs.length c], .int .i64 Wd0] w (SnpOut (snipAll s cs Wd0).1 (snipAll s cs Wd0).2 w) := by
  have HCQ := hide (fun W (hb : Below w.heap.size w W) => checkQuery_any cs A c W (hA.below hb) hN hL hB)
  have HPO := hide (show ∀ (r : Snp) (E : Int) A' c' w', snipAll s cs Wd0 = (r, E) → MksAt w' A' r.ms → Below w.heap.size w w' → SnpOut (snipAll s cs Wd0).1 (snipAll s cs Wd0).2 w (.returned (.tuple #[.agg #[.int .i64 r.f, .int .i64 r.u, .slice A' r.ms.length c'], .int .i64 E])) w' by
    intro r E A' c' w' h h1 h2
    rw [h]
    exact ⟨A', c', rfl, h1, h2⟩)
  generalize SnpOut (snipAll s cs Wd0).1 (snipAll s cs Wd0).2 w = PO at *
  by_cases hq : qErr cs = 0
  case neg =>
    have HR := hide (show snipAll s cs Wd0 = (Snp.zero, qErr cs) from if_pos hq)
    have j0 : (qErr cs != 0) = true := by simpa using hq
    clear hA hB hN hL hs
    generalize qErr cs = E at *
    go_enter Try.func5, Try.ntmps5
    go_wp2_with (go_at_call 11; refine (HCQ.out _ ?hbw).mono ?_; (case hbw => exact (by repeat (first | with_reducible exact Below.refl _ _ | with_reducible refine bl_plus ?_ | with_reducible refine bl_alloc ?_ _ | with_reducible refine bl_drew ?_ | with_reducible refine bl_drewN ?_ _))); rintro e w' ⟨rfl, hbl⟩; obtain ⟨os0, n0, rfl⟩ := below_plus hbl; clear hbl)
    refine bodyPost_ret (v := .tuple #[.agg #[.int .i64 0, .int .i64 0, .slice none 0 0], .int .i64 E]) (by simp [results, Try.results5, go_sem]) rfl ?_
    exact HPO.out Snp.zero E none 0 _ HR.out (fun h => absurd h (by simp [Snp.zero])) (by repeat (first | with_reducible exact Below.refl _ _ | with_reducible refine bl_plus ?_ | with_reducible refine bl_alloc ?_ _ | with_reducible refine bl_drew ?_ | with_reducible refine bl_drewN ?_ _))
  have hsm := smallQ_of hq
  rw [hq] at HCQ
  have hR1 : snipAll s cs Wd0 = if 2000 < s.size then (Snp.zero, 4) else if Wd0 < 1 ∨ 1000 < Wd0 then (Snp.zero, 2) else (snipP (wordsAt s 0) (fun x => wantB cs x.t) Wd0.toNat, 0) := by
    unfold snipAll
    rw [if_neg (by rw [hq]; decide)]
  by_cases h2000 : 2000 < s.size
  · have HR := hide (hR1.trans (if_pos h2000))
    have i1 : (2000 : Int) < (s.size : Int) := by omega
    clear hA hB hN hL hR1 hq hsm h2000
    go_enter Try.func5, Try.ntmps5
    go_wp2_with (go_at_call 11; refine (HCQ.out _ ?hbw).mono ?_; (case hbw => exact (by repeat (first | with_reducible exact Below.refl _ _ | with_reducible refine bl_plus ?_ | with_reducible refine bl_alloc ?_ _ | with_reducible refine bl_drew ?_ | with_reducible refine bl_drewN ?_ _))); rintro e w' ⟨rfl, hbl⟩; obtain ⟨os0, n0, rfl⟩ := below_plus hbl; clear hbl)
    refine bodyPost_ret (v := .tuple #[.agg #[.int .i64 0, .int .i64 0, .slice none 0 0], .int .i64 4]) (by simp [results, Try.results5, go_sem]) rfl ?_
    exact HPO.out Snp.zero 4 none 0 _ HR.out (fun h => absurd h (by simp [Snp.zero])) (by repeat (first | with_reducible exact Below.refl _ _ | with_reducible refine bl_plus ?_ | with_reducible refine bl_alloc ?_ _ | with_reducible refine bl_drew ?_ | with_reducible refine bl_drewN ?_ _))
  have hR2 := hR1.trans (if_neg h2000)
  have i1 : ¬ (2000 : Int) < (s.size : Int) := by omega
  by_cases hwd : Wd0 < 1 ∨ 1000 < Wd0
  · have HR := hide (hR2.trans (if_pos hwd))
    have HOU := hide (fun w => outside_yes Wd0 1 1000 w hwd)
    clear hA hB hN hL hR1 hR2 hq hsm hwd
    go_enter Try.func5, Try.ntmps5
    go_wp2_with (first | (go_at_call 11; refine (HCQ.out _ ?hbw).mono ?_; (case hbw => exact (by repeat (first | with_reducible exact Below.refl _ _ | with_reducible refine bl_plus ?_ | with_reducible refine bl_alloc ?_ _ | with_reducible refine bl_drew ?_ | with_reducible refine bl_drewN ?_ _))); rintro e w' ⟨rfl, hbl⟩; obtain ⟨os0, n0, rfl⟩ := below_plus hbl; clear hbl) | (go_at_call 12; refine (HOU.out _).mono ?_; rintro e w' ⟨rfl, rfl⟩))
    refine bodyPost_ret (v := .tuple #[.agg #[.int .i64 0, .int .i64 0, .slice none 0 0], .int .i64 2]) (by simp [results, Try.results5, go_sem]) rfl ?_
    exact HPO.out Snp.zero 2 none 0 _ HR.out (fun h => absurd h (by simp [Snp.zero])) (by repeat (first | with_reducible exact Below.refl _ _ | with_reducible refine bl_plus ?_ | with_reducible refine bl_alloc ?_ _ | with_reducible refine bl_drew ?_ | with_reducible refine bl_drewN ?_ _))
  have hR3 := hR2.trans (if_neg hwd)
  have HOU := hide (fun w => outside_no Wd0 1 1000 w (by omega) (by omega))
  obtain ⟨W, rfl⟩ : ∃ W : Nat, Wd0 = (W : Int) := ⟨Wd0.toNat, by omega⟩
  rw [Int.toNat_natCast] at hR3
  have hW : W ≤ 1000 := by omega
  have HWO := hide (fun W' => words_any s W' hs)
  unfold WordsOut at HWO
  have hcnt := wordsAt_count s
  have hin := fun x hx => wordsAt_in s x hx
  clear hR1 hR2 hB hN hL hq
  generalize hlw : wordsAt s 0 = l at *
  clear hlw
  have hl2 : l.length ≤ 2000 := by omega
  have hlx : ∀ x ∈ l, x.f ≤ 2000 ∧ x.u ≤ 2000 := fun x hx => by have := hin x hx; omega
  have hCQ : CqsAt ((w.alloc (.cells #[.slice A cs.length c] 24)).alloc (.cells #[.int .i64 0, .int .i64 0, .slice none 0 0] 27)) A cs := hA.below (bl_alloc (bl_alloc (Below.refl _ _) _) _)
  have hcell : ((w.alloc (.cells #[.slice A cs.length c] 24)).alloc (.cells #[.int .i64 0, .int .i64 0, .slice none 0 0] 27)).cell? ⟨w.heap.size, 0, none⟩ = some (.slice A cs.length c) := by
    have := (Blk.new w 24 #[.slice A cs.length c]).alloc (.cells #[.int .i64 0, .int .i64 0, .slice none 0 0] 27)
    exact this.cell 0
  have HCL := hide (fun A1 c1 W' (hW1 : WdsAt W' A1 l) => cloneWds_any A1 c1 l W' hW1 (by omega))
  have HDL := hide (fun (A2 : Option Addr) (c2 base : Nat) (W' : World) (ho : OwnK 3 48 W' base (.slice A2 l.length c2) l.length (flatW l)) (hws : Below ((w.alloc (.cells #[.slice A cs.length c] 24)).alloc (.cells #[.int .i64 0, .int .i64 0, .slice none 0 0] 27)).heap.size ((w.alloc (.cells #[.slice A cs.length c] 24)).alloc (.cells #[.int .i64 0, .int .i64 0, .slice none 0 0] 27)) W') (hlo : ((w.alloc (.cells #[.slice A cs.length c] 24)).alloc (.cells #[.int .i64 0, .int .i64 0, .slice none 0 0] 27)).heap.size ≤ base) =>
    deleteRow_all 16 w.heap.size (fun x => wantB cs x.t) ((w.alloc (.cells #[.slice A cs.length c] 24)).alloc (.cells #[.int .i64 0, .int .i64 0, .slice none 0 0] 27)) base c2 A2 l W' (by omega) (fun args w => Go.Proofs.enters_of Try.func16 (by kernel_rfl) rfl args w) ho hws hlo (fun x hx W2 hb => miss_any cs A c x.t x.f x.u w.heap.size W2 (hCQ.below hb) hsm (hin x hx).2.2.2 ((hb.cell (p := ⟨w.heap.size, 0, none⟩) (by simp only [World.size_alloc]; omega)).trans hcell) (by have := hb.size; simp only [World.size_alloc] at this; omega)))
  unfold CloneWOut at HCL
  unfold DelOutW at HDL
  have HWI0 := hide (fun (A1 : Option Addr) (c1 : Nat) (xt : ByteArray) (xf xu : Nat) (hx : xf ≤ 2000 ∧ xu ≤ 2000) W' (hW1 : WdsAt W' A1 l) => window_any l xt xf xu W A1 c1 W' hW1 (by omega) hlx hx hW)
  have HIN := hide hin
  clear hA hsm hin hCQ hcell
  match l, hl2 with
  | [], _ =>
    have HR := hide (show snipAll s cs W = (Snp.zero, 0) from hR3)
    simp only [List.length_nil, List.filter_nil] at HCL HDL HWO
    clear hR3 HWI0 HIN hlx hcnt
    go_enter Try.func5, Try.ntmps5
    go_wp2_with (first | (go_at_call 11; refine (HCQ.out _ ?hbw).mono ?_; (case hbw => exact (by repeat (first | with_reducible exact Below.refl _ _ | with_reducible refine bl_plus ?_ | with_reducible refine bl_alloc ?_ _ | with_reducible refine bl_drew ?_ | with_reducible refine bl_drewN ?_ _))); rintro e w' ⟨rfl, hbl⟩; obtain ⟨os0, n0, rfl⟩ := below_plus hbl; clear hbl) | (go_at_call 12; refine (HOU.out _).mono ?_; rintro e w' ⟨rfl, rfl⟩) | (go_at_call 13; refine (HWO.out _).mono ?_; rintro e w' ⟨A1, c1, rfl, hr, hbl⟩; have HW1 := hide hr; obtain ⟨os1, n1, rfl⟩ := below_plus hbl; clear hbl hr) | (go_at_call 15; refine (HCL.out A1 c1 _ ?hw).mono ?_; (case hw => exact HW1.out.below (by repeat (first | with_reducible exact Below.refl _ _ | with_reducible refine bl_plus ?_ | with_reducible refine bl_alloc ?_ _ | with_reducible refine bl_drew ?_ | with_reducible refine bl_drewN ?_ _))); rintro e w' ⟨A2, c2, rfl, hown, hbl⟩; have HO2 := hide hown; obtain ⟨os2, n2, rfl⟩ := below_plus hbl; clear hbl hown) | (go_at_call 14; refine (HDL.out A2 c2 _ _ HO2.out ?hws ?hlo).mono ?_; (case hws => exact (by repeat (first | with_reducible exact Below.refl _ _ | with_reducible refine bl_plus ?_ | with_reducible refine bl_alloc ?_ _ | with_reducible refine bl_drew ?_ | with_reducible refine bl_drewN ?_ _))); (case hlo => simp only [plus_size, World.size_alloc]; omega); rintro e w' ⟨rfl, hown3, hgr⟩; have HF3 := hide hown3; have hb3 := Below.grown (row := (Value.slice A2 0 0).ownBlock) (bl_plus (Below.refl _ _)) hgr (le_plus (Nat.le_refl _)) (fun k hk => (HO2.out.lt k ((own_sameQ A2 _ _ _ _).trans hk)).1); obtain ⟨os3, n3, rfl⟩ := below_plus hb3; clear hown3 hgr hb3))
    refine bodyPost_ret (v := .tuple #[.agg #[.int .i64 0, .int .i64 0, .slice none 0 0], .int .i64 0]) (by simp [results, Try.results5, go_sem]) rfl ?_
    exact HPO.out Snp.zero 0 none 0 _ HR.out (fun h => absurd h (by simp [Snp.zero])) (by repeat (first | with_reducible exact Below.refl _ _ | with_reducible refine bl_plus ?_ | with_reducible refine bl_alloc ?_ _ | with_reducible refine bl_drew ?_ | with_reducible refine bl_drewN ?_ _))
  | x0 :: l0, hl2 =>
  generalize hxl : x0 :: l0 = l at *
  have hpos : 0 < l.length := by rw [← hxl]; simp
  have hR4 : snipAll s cs W = (if l.filter (fun x => wantB cs x.t) = [] then ⟨x0.f, winTo l x0 W, []⟩ else ((l.filter (fun x => wantB cs x.t)).foldl (stepP l (l.filter (fun x => wantB cs x.t)) W) (Snp.zero, 0)).1, 0) := by
    rw [hR3, ← hxl]
    rfl
  have hx0 : ∀ (h : 0 < l.length), l[0] = x0 := fun h => by subst hxl; rfl
  generalize hfl : l.filter (fun x => wantB cs x.t) = fl at *
  have hfm : ∀ x ∈ fl, x ∈ l := fun x hx => by rw [← hfl] at hx; exact (List.mem_filter.1 hx).1
  have hfn : fl.length ≤ l.length := by rw [← hfl]; exact List.length_filter_le _ _
  clear hR3 hfl
  by_cases hf0 : fl = []
  · rw [if_pos hf0] at hR4
    have HR := hide hR4
    have HX0 := hide hx0
    have hx0b := hlx x0 (by rw [← hxl]; exact List.mem_cons_self)
    have HWI := hide (fun A1 c1 => HWI0.out A1 c1 x0.t x0.f x0.u hx0b)
    have i0 : ((l.length : Int) == 0) = false := beq_eq_false_iff_ne.2 (by omega)
    subst hf0
    simp only [List.length_nil] at HDL
    obtain ⟨x0t, x0f, x0u⟩ := x0
    clear hR4 hx0 HWI0 HIN hlx hcnt hfm hfn hxl
    go_enter Try.func5, Try.ntmps5
    go_upto_region 10 with (first | (go_at_call 11; refine (HCQ.out _ ?hbw).mono ?_; (case hbw => exact (by repeat (first | with_reducible exact Below.refl _ _ | with_reducible refine bl_plus ?_ | with_reducible refine bl_alloc ?_ _ | with_reducible refine bl_drew ?_ | with_reducible refine bl_drewN ?_ _))); rintro e w' ⟨rfl, hbl⟩; obtain ⟨os0, n0, rfl⟩ := below_plus hbl; clear hbl) | (go_at_call 12; refine (HOU.out _).mono ?_; rintro e w' ⟨rfl, rfl⟩) | (go_at_call 13; refine (HWO.out _).mono ?_; rintro e w' ⟨A1, c1, rfl, hr, hbl⟩; have HW1 := hide hr; obtain ⟨os1, n1, rfl⟩ := below_plus hbl; clear hbl hr) | (go_at_call 15; refine (HCL.out A1 c1 _ ?hw).mono ?_; (case hw => exact HW1.out.below (by repeat (first | with_reducible exact Below.refl _ _ | with_reducible refine bl_plus ?_ | with_reducible refine bl_alloc ?_ _ | with_reducible refine bl_drew ?_ | with_reducible refine bl_drewN ?_ _))); rintro e w' ⟨A2, c2, rfl, hown, hbl⟩; have HO2 := hide hown; obtain ⟨os2, n2, rfl⟩ := below_plus hbl; clear hbl hown) | (go_at_call 14; refine (HDL.out A2 c2 _ _ HO2.out ?hws ?hlo).mono ?_; (case hws => exact (by repeat (first | with_reducible exact Below.refl _ _ | with_reducible refine bl_plus ?_ | with_reducible refine bl_alloc ?_ _ | with_reducible refine bl_drew ?_ | with_reducible refine bl_drewN ?_ _))); (case hlo => simp only [plus_size, World.size_alloc]; omega); rintro e w' ⟨rfl, hown3, hgr⟩; have HF3 := hide hown3; have hb3 := Below.grown (row := (Value.slice A2 0 0).ownBlock) (bl_plus (Below.refl _ _)) hgr (le_plus (Nat.le_refl _)) (fun k hk => (HO2.out.lt k ((own_sameQ A2 _ _ _ _).trans hk)).1); obtain ⟨os3, n3, rfl⟩ := below_plus hb3; clear hown3 hgr hb3))
    obtain ⟨b1, o1, rfl, hb1, hv1⟩ := HW1.out hpos
    obtain ⟨d0, d1, d2⟩ := hv1 0 hpos
    rw [HX0.out hpos] at d0 d1 d2
    simp only [Nat.zero_mul, Nat.add_zero] at d0 d1 d2
    have HW2 := hide (HW1.out)
    have i2 : (0 : Int) < (l.length : Int) := by omega
    simp only [plus_size, World.size_alloc] at hb1
    generalize winTo l ⟨x0t, x0f, x0u⟩ W = TO at *
    clear hv1 HW1 HCL HDL HCQ HOU HWO HF3 HO2 HX0
    go_wp2_with (go_at_call 18; refine (HWI.out _ _ _ ?hww).mono ?_; (case hww => exact HW2.out.below (by repeat (first | with_reducible exact Below.refl _ _ | with_reducible refine bl_plus ?_ | with_reducible refine bl_alloc ?_ _ | with_reducible refine bl_drew ?_ | with_reducible refine bl_drewN ?_ _))); rintro e w' ⟨rfl, hbl⟩; obtain ⟨os5, n5, rfl⟩ := below_plus hbl; clear hbl)
    refine bodyPost_ret (v := .tuple #[.agg #[.int .i64 x0f, .int .i64 TO, .slice none 0 0], .int .i64 0]) (by simp [results, Try.results5, go_sem]) rfl ?_
    exact HPO.out ⟨x0f, TO, []⟩ 0 none 0 _ HR.out (fun h => absurd h (by simp)) (by repeat (first | with_reducible exact Below.refl _ _ | with_reducible refine bl_plus ?_ | with_reducible refine bl_alloc ?_ _ | with_reducible refine bl_drew ?_ | with_reducible refine bl_drewN ?_ _))
  · rw [if_neg hf0] at hR4
    have HR := hide hR4
    have i0 : ((l.length : Int) == 0) = false := beq_eq_false_iff_ne.2 (by omega)
    have hfp : 0 < fl.length := List.length_pos_iff.2 hf0
    have i00 : ((fl.length : Int) == 0) = false := beq_eq_false_iff_ne.2 (by omega)
    have HFM := hide hfm
    have HLX := hide hlx
    have hmm := @run_makeMap Try.prog
    clear hR4 hx0 hcnt hfm hxl hlx
    go_enter Try.func5, Try.ntmps5
    go_wp2_with (first | (go_at_call 11; refine (HCQ.out _ ?hbw).mono ?_; (case hbw => exact (by repeat (first | with_reducible exact Below.refl _ _ | with_reducible refine bl_plus ?_ | with_reducible refine bl_alloc ?_ _ | with_reducible refine bl_drew ?_ | with_reducible refine bl_drewN ?_ _))); rintro e w' ⟨rfl, hbl⟩; obtain ⟨os0, n0, rfl⟩ := below_plus hbl; clear hbl) | (go_at_call 12; refine (HOU.out _).mono ?_; rintro e w' ⟨rfl, rfl⟩) | (go_at_call 13; refine (HWO.out _).mono ?_; rintro e w' ⟨A1, c1, rfl, hr, hbl⟩; have HW1 := hide hr; obtain ⟨os1, n1, rfl⟩ := below_plus hbl; clear hbl hr) | (go_at_call 15; refine (HCL.out A1 c1 _ ?hw).mono ?_; (case hw => exact HW1.out.below (by repeat (first | with_reducible exact Below.refl _ _ | with_reducible refine bl_plus ?_ | with_reducible refine bl_alloc ?_ _ | with_reducible refine bl_drew ?_ | with_reducible refine bl_drewN ?_ _))); rintro e w' ⟨A2, c2, rfl, hown, hbl⟩; have HO2 := hide hown; obtain ⟨os2, n2, rfl⟩ := below_plus hbl; clear hbl hown) | (go_at_call 14; refine (HDL.out A2 c2 _ _ HO2.out ?hws ?hlo).mono ?_; (case hws => exact (by repeat (first | with_reducible exact Below.refl _ _ | with_reducible refine bl_plus ?_ | with_reducible refine bl_alloc ?_ _ | with_reducible refine bl_drew ?_ | with_reducible refine bl_drewN ?_ _))); (case hlo => simp only [plus_size, World.size_alloc]; omega); rintro e w' ⟨rfl, hown3, hgr⟩; have HF3 := hide hown3; have hb3 := Below.grown (row := (Value.slice A2 0 0).ownBlock) (bl_plus (Below.refl _ _)) hgr (le_plus (Nat.le_refl _)) (fun k hk => (HO2.out.lt k ((own_sameQ A2 _ _ _ _).trans hk)).1); obtain ⟨os3, n3, rfl⟩ := below_plus hb3; clear hown3 hgr hb3))
    have HWD := hide (HW1.out.below (w' := (plus (plus (plus ((w.alloc (.cells #[.slice A cs.length c] 24)).alloc (.cells #[.int .i64 0, .int .i64 0, .slice none 0 0] 27)) os0 n0) os1 n1) os3 n3)) (bl_plus (Below.refl _ _)))
    have HFD := hide (HF3.out.wds).2.2.2
    clear i0 i00 HW1 HF3 HO2 HCL HDL HCQ HOU HWO i1
    obtain ⟨iP, hiP, hzP0, hzP1, hzP2⟩ := info_parts info_mk
    have HIM := hide (And.intro hiP (And.intro hzP0 (And.intro hzP1 hzP2)))
    clear hiP hzP0 hzP1 hzP2
    generalize hRES : (fl.foldl (stepP l fl W) (Snp.zero, 0)) = RES at *
    have HRES := hide hRES
    clear hRES
    go_loopw [12, 53] (fun wo i wr => ∃ (k : Nat) (st : Snp × Nat) (Am : Option Addr) (cm : Nat) (os4 : Array Obj) (n4 : Nat), k ≤ fl.length ∧ wo = .int .i64 ((st.2 : Nat) : Int) ∧ i = .int .i64 k ∧ wr = plus ((plus (plus (plus ((w.alloc (.cells #[.slice A cs.length c] 24)).alloc (.cells #[.int .i64 0, .int .i64 0, .slice none 0 0] 27)) os0 n0) os1 n1) os3 n3).alloc (.cells #[.int .i64 ((st.1.f : Nat) : Int), .int .i64 ((st.1.u : Nat) : Int), .slice Am st.1.ms.length cm] 27)) os4 n4 ∧ Hid ((fl.drop k).foldl (stepP l fl W) st = RES) ∧
      Hid (OwnK 2 55 wr (w.heap.size + 1 + 1 + os0.size + os1.size + os3.size + 1) (.slice Am st.1.ms.length cm) st.1.ms.length (flatMk st.1.ms)) ∧ st.2 ≤ 2000) (fun _ i _ => fl.length - (RowKit.intOf i).toNat)
    case atStart => exact ⟨0, (Snp.zero, 0), none, 0, #[], _, Nat.zero_le _, rfl, rfl, plus_nil.symm, HRES, hide OwnK.empty, Nat.zero_le _⟩
    case round =>
      clear HRES
      obtain ⟨k, ⟨⟨sf, su, sms⟩, sn⟩, Am, cm, os4, n4, hk, rfl, rfl, rfl, HST, HS, hsn⟩ := hrel
      simp only at HST HS hsn ⊢
      by_cases hlt : k < fl.length
      · obtain ⟨b2, o2, rfl, hb2, hv2⟩ := HFD.out (by omega)
        obtain ⟨c0, c1', c2'⟩ := hv2 k hlt
        obtain ⟨hx1, hx2⟩ := HLX.out fl[k] (HFM.out _ (List.getElem_mem hlt))
        have hst := HST.out
        rw [List.drop_eq_getElem_cons hlt, List.foldl_cons] at hst
        simp only [plus_size, World.size_alloc] at hb2
        have HV2 := hide hv2
        have HTO := hide (winTo_le (l := l) (x0 := fl[k]) (W := W) (M := 2000) hx2 (fun x h => (HLX.out x h).2))
        have HWI := hide (fun W' h => HWI0.out A1 c1 fl[k].t fl[k].f fl[k].u ⟨hx1, hx2⟩ W' h)
        clear hv2 HST
        generalize fl[k] = x at *
        obtain ⟨xt, xf, xu⟩ := x
        have hstep : stepP l fl W (⟨sf, su, sms⟩, sn) ⟨xt, xf, xu⟩ = (if sn < distN ((marksOf fl ⟨xt, xf, xu⟩ (winTo l ⟨xt, xf, xu⟩ W)).map Wd.t) then (⟨xf, winTo l ⟨xt, xf, xu⟩ W, marksOf fl ⟨xt, xf, xu⟩ (winTo l ⟨xt, xf, xu⟩ W)⟩, distN ((marksOf fl ⟨xt, xf, xu⟩ (winTo l ⟨xt, xf, xu⟩ W)).map Wd.t)) else (⟨sf, su, sms⟩, sn)) := rfl
        rw [hstep] at hst
        have HST := hide hst
        have hTO := HTO.out
        clear hst hstep HTO
        simp only at c0 c1' c2' HWI hx1 hx2
        generalize winTo l ⟨xt, xf, xu⟩ W = TO at *
        go_wp2_with (go_at_call 18; refine (HWI.out _ ?hww).mono ?_; (case hww => exact HWD.out.below (by repeat (first | with_reducible exact Below.refl _ _ | with_reducible refine bl_plus ?_ | with_reducible refine bl_alloc ?_ _ | with_reducible refine bl_drew ?_ | with_reducible refine bl_drewN ?_ _))); rintro e w' ⟨rfl, hbl⟩; obtain ⟨os5, n5, rfl⟩ := below_plus hbl; clear hbl)
        clear c0 c1' c2' HWI
        go_loopw [64] (fun i wr => ∃ (q : Nat) (Ax : Option Addr) (cx : Nat) (os6 : Array Obj) (n6 : Nat), q ≤ fl.length ∧ i = .int .i64 q ∧ wr = plus ((plus ((plus ((plus (plus (plus ((w.alloc (.cells #[.slice A cs.length c] 24)).alloc (.cells #[.int .i64 0, .int .i64 0, .slice none 0 0] 27)) os0 n0) os1 n1) os3 n3).alloc (.cells #[.int .i64 ((sf : Nat) : Int), .int .i64 ((su : Nat) : Int), .slice Am sms.length cm] 27)) os4 n4).alloc (.cells #[.string xt, .int .i64 xf, .int .i64 xu] 48)) os5 n5).alloc (.cells #[.int .i64 xf, .int .i64 (TO : Nat), .slice Ax (marksOf (fl.take q) ⟨xt, xf, xu⟩ TO).length cx] 27)) os6 n6 ∧
          Hid (OwnK 2 55 wr (w.heap.size + 1 + 1 + os0.size + os1.size + os3.size + 1 + os4.size + 1 + os5.size + 1 + 1) (.slice Ax (marksOf (fl.take q) ⟨xt, xf, xu⟩ TO).length cx) (marksOf (fl.take q) ⟨xt, xf, xu⟩ TO).length (flatMk (marksOf (fl.take q) ⟨xt, xf, xu⟩ TO))) ∧
          Hid (wr.ownsMap Try.prog 9 (plainElem Try.prog 4) (w.heap.size + 1 + 1 + os0.size + os1.size + os3.size + 1 + os4.size + 1 + os5.size + 1) (marksOf (fl.take q) ⟨xt, xf, xu⟩ TO).length (mapB ((marksOf (fl.take q) ⟨xt, xf, xu⟩ TO).map Wd.t)))) (fun i _ => fl.length - (RowKit.intOf i).toNat)
        case atStart => exact ⟨0, none, 0, #[.map #[] 0], _, Nat.zero_le _, rfl, alloc_plus, hide OwnK.empty, hide (by
          have := World.ownsMap_made (H := Unit) ((plus ((plus ((plus (plus (plus ((w.alloc (.cells #[.slice A cs.length c] 24)).alloc (.cells #[.int .i64 0, .int .i64 0, .slice none 0 0] 27)) os0 n0) os1 n1) os3 n3).alloc (.cells #[.int .i64 ((sf : Nat) : Int), .int .i64 ((su : Nat) : Int), .slice Am sms.length cm] 27)) os4 n4).alloc (.cells #[.string xt, .int .i64 xf, .int .i64 xu] 48)) os5 n5).alloc (.cells #[.int .i64 xf, .int .i64 (TO : Nat), .slice none 0 0] 27)) Try.prog 9 (plainElem Try.prog 4)
          simp only [plus_size, World.size_alloc] at this
          exact this)⟩
        case round =>
          obtain ⟨q, Ax, cx, os6, n6, hq, rfl, rfl, HS2, HMAP⟩ := hrel
          by_cases hlt2 : q < fl.length
          · obtain ⟨e0, e1, e2⟩ := HV2.out q hlt2
            have hmk := marksOf_take (x0 := ⟨xt, xf, xu⟩) (TO := TO) hlt2
            have hml := marksOf_len (fl.take q) ⟨xt, xf, xu⟩ TO
            rw [List.length_take] at hml
            obtain ⟨hy1, hy2⟩ := HLX.out fl[q] (HFM.out _ (List.getElem_mem hlt2))
            have hyt := (HIN.out fl[q] (HFM.out _ (List.getElem_mem hlt2))).2.2.2
            have HMK := hide hmk
            clear hmk
            generalize fl[q] = y at *
            generalize marksOf (fl.take q) ⟨xt, xf, xu⟩ TO = ms at *
            obtain ⟨yt, yf, yu⟩ := y
            simp only at e0 e1 e2 hy1 hy2 hyt HMK
            by_cases h1 : xf ≤ yf
            · have j1 : (xf : Int) ≤ (yf : Int) := by omega
              by_cases h2 : yu ≤ TO
              · have j2 : (yu : Int) ≤ (TO : Int) := by omega
                have HMK2 := hide (HMK.out.trans (if_pos ⟨h1, h2⟩))
                have HBIG := hide (show (ms.length + 1) * iP.bytes ≤ 140737488355328 ∧ ms.length + 1 ≤ 140737488355328 by rw [HIM.out.2.2.2]; omega)
                clear HMK h1 h2
                go_wp2_with (first
                  | (at_builtin; go_loud (refine wpList_append_b rfl (.tmp 81) (.tmp 87) rfl rfl Try.underlying25 HIM.out.1 HIM.out.2.1 HIM.out.2.2.1 (by decide) rfl (by have := HIM.out.2.2.2; omega) (w.heap.size + 1 + 1 + os0.size + os1.size + os3.size + 1 + os4.size + 1 + os5.size + 1 + 1) ms.length (.slice Ax ms.length cx) (flatMk ms) [.int .i64 yf, .int .i64 yu] _ rfl (by repeat (first | with_reducible exact HS2.out | with_reducible refine ownK_alloc ?_ _ | with_reducible refine ownK_plus ?_ _ _ | with_reducible refine ownK_drew ?_ | with_reducible refine ownK_drewN ?_ _)) rfl (by intro u hu; simp only [List.mem_cons, List.not_mem_nil, or_false] at hu; rcases hu with rfl | rfl <;> rfl) rfl (newN_cells (cs := [.int .i64 yf, .int .i64 yu]) (by simp only [World.size_alloc, plus_size, World.drew])) HBIG.out (by have := (HMAP.out).lt; simp only [World.size_alloc, plus_size, World.drew] at this ⊢; omega) ?_; intro v' w1 hown1 hgr1 hfr1; obtain ⟨A1x, c1x, rfl, _⟩ := ownK_form hown1; have HN := hide hown1; have HM1 := hide (((HMAP.out.alloc _).alloc _).kept hgr1 (fun e => by have := (HS2.out.lt _ e.symm).1; omega)); have hB := Blk.grown (Blk.alloc (Blk.new (plus ((plus ((plus ((plus (plus (plus ((w.alloc (.cells #[.slice A cs.length c] 24)).alloc (.cells #[.int .i64 0, .int .i64 0, .slice none 0 0] 27)) os0 n0) os1 n1) os3 n3).alloc (.cells #[.int .i64 ((sf : Nat) : Int), .int .i64 ((su : Nat) : Int), .slice Am sms.length cm] 27)) os4 n4).alloc (.cells #[.string xt, .int .i64 xf, .int .i64 xu] 48)) os5 n5).alloc (.cells #[.int .i64 xf, .int .i64 (TO : Nat), .slice Ax ms.length cx] 27)) os6 n6) 48 #[.string yt, .int .i64 yf, .int .i64 yu]) _) hgr1 (fun h => by have := (HS2.out.lt _ h.symm).2; omega); obtain ⟨os9, n9, rfl⟩ := grown_plus (L := ((plus ((plus ((plus (plus (plus ((w.alloc (.cells #[.slice A cs.length c] 24)).alloc (.cells #[.int .i64 0, .int .i64 0, .slice none 0 0] 27)) os0 n0) os1 n1) os3 n3).alloc (.cells #[.int .i64 ((sf : Nat) : Int), .int .i64 ((su : Nat) : Int), .slice Am sms.length cm] 27)) os4 n4).alloc (.cells #[.string xt, .int .i64 xf, .int .i64 xu] 48)) os5 n5).alloc (.cells #[.int .i64 xf, .int .i64 (TO : Nat), .slice Ax ms.length cx] 27))) (by repeat (first | with_reducible exact Below.refl _ _ | with_reducible refine bl_plus ?_ | with_reducible refine bl_alloc ?_ _ | with_reducible refine bl_drew ?_ | with_reducible refine bl_drewN ?_ _)) hgr1 (fun k hk => by have := (HS2.out.lt k hk).1; simp only [plus_size, World.size_alloc]; omega); have hB0 := hB.cell 0; simp only [plus_size, World.size_alloc] at hB0; have E0 : (plus ((plus ((plus ((plus (plus (plus ((w.alloc (.cells #[.slice A cs.length c] 24)).alloc (.cells #[.int .i64 0, .int .i64 0, .slice none 0 0] 27)) os0 n0) os1 n1) os3 n3).alloc (.cells #[.int .i64 ((sf : Nat) : Int), .int .i64 ((su : Nat) : Int), .slice Am sms.length cm] 27)) os4 n4).alloc (.cells #[.string xt, .int .i64 xf, .int .i64 xu] 48)) os5 n5).alloc (.cells #[.int .i64 xf, .int .i64 (TO : Nat), .slice A1x (ms.length + 1) c1x] 27)) os9 n9).cell? ⟨w.heap.size + 1 + 1 + os0.size + os1.size + os3.size + 1 + os4.size + 1 + os5.size + 1 + os6.size, 0, none⟩ = some (.string yt) := (World.cell?_of_block (w := plus ((plus ((plus ((plus (plus (plus ((w.alloc (.cells #[.slice A cs.length c] 24)).alloc (.cells #[.int .i64 0, .int .i64 0, .slice none 0 0] 27)) os0 n0) os1 n1) os3 n3).alloc (.cells #[.int .i64 ((sf : Nat) : Int), .int .i64 ((su : Nat) : Int), .slice Am sms.length cm] 27)) os4 n4).alloc (.cells #[.string xt, .int .i64 xf, .int .i64 xu] 48)) os5 n5).alloc (.cells #[.int .i64 xf, .int .i64 (TO : Nat), .slice Ax ms.length cx] 27)) os9 n9) (plus_swapQ (by simp only [plus_size, World.size_alloc]) (by simp only [plus_size, World.size_alloc]; omega))).trans hB0; clear hown1 hgr1 hfr1 hB hB0))
                  | (at_mapUpdate; go_loud (refine wpList_mapUpdate_own _ rfl _ _ _ 53 rfl 9 4 (string_keyed Try.underlying9) Try.underlying53 (plainElem Try.prog 4) (w.heap.size + 1 + 1 + os0.size + os1.size + os3.size + 1 + os4.size + 1 + os5.size + 1) ms.length _ rfl (own_heap HM1.out (plus_swapQ (by simp only [plus_size, World.size_alloc]) (by simp only [plus_size, World.size_alloc]; omega))) (by unfold maxLen; omega) _ _ _ rfl rfl (Go.WideMaps.keyOf_string_mk Try.underlying9 (by unfold maxLen; omega)) _ [] (plainElem_bool Try.underlying4 true) ?_; intro w2 hown2 hgrow2; have HN2 := hide ((ownK_swap (B' := ((plus ((plus ((plus (plus (plus ((w.alloc (.cells #[.slice A cs.length c] 24)).alloc (.cells #[.int .i64 0, .int .i64 0, .slice none 0 0] 27)) os0 n0) os1 n1) os3 n3).alloc (.cells #[.int .i64 ((sf : Nat) : Int), .int .i64 ((su : Nat) : Int), .slice Am sms.length cm] 27)) os4 n4).alloc (.cells #[.string xt, .int .i64 xf, .int .i64 xu] 48)) os5 n5).alloc (.cells #[.int .i64 xf, .int .i64 (TO : Nat), .slice A1x (ms.length + 1) c1x] 27))) (n' := n9) HN.out (by simp only [plus_size, World.size_alloc]) (by simp only [plus_size, World.size_alloc]; omega)).kept (fun k hk => hgrow2.block k (by have := (HN.out.lt k hk).2; simp only [plus_size, World.size_alloc] at this ⊢; omega) (fun e => by have := (HN.out.lt k hk).1; have := Option.some.inj e; omega))); have HM3 := hide (hown2); obtain ⟨os10, n10, rfl⟩ := grown_plus (L := ((plus ((plus ((plus (plus (plus ((w.alloc (.cells #[.slice A cs.length c] 24)).alloc (.cells #[.int .i64 0, .int .i64 0, .slice none 0 0] 27)) os0 n0) os1 n1) os3 n3).alloc (.cells #[.int .i64 ((sf : Nat) : Int), .int .i64 ((su : Nat) : Int), .slice Am sms.length cm] 27)) os4 n4).alloc (.cells #[.string xt, .int .i64 xf, .int .i64 xu] 48)) os5 n5).alloc (.cells #[.int .i64 xf, .int .i64 (TO : Nat), .slice A1x (ms.length + 1) c1x] 27))) (by repeat (first | with_reducible exact Below.refl _ _ | with_reducible refine bl_plus ?_ | with_reducible refine bl_alloc ?_ _ | with_reducible refine bl_drew ?_ | with_reducible refine bl_drewN ?_ _)) hgrow2 (fun k hk => by have := Option.some.inj hk; simp only [plus_size, World.size_alloc]; omega); clear hown2 hgrow2)))
                go_roundw
                case rel => exact ⟨q + 1, A1x, c1x, os10, n10, hlt2, by go_num, by rw [HMK2.out, List.length_append]; rfl, hide (by rw [HMK2.out, List.length_append, flatMk_snoc]; exact HN2.out), hide (by rw [HMK2.out, List.length_append, List.map_append, show (List.map Wd.t [(⟨yt, yf, yu⟩ : Wd)]) = [yt] from rfl, mapB_snoc]; exact HM3.out)⟩
                case measure => simp [RowKit.intOf]; omega
              · have j2 : ¬ (yu : Int) ≤ (TO : Int) := by omega
                have HMK2 := hide (HMK.out.trans (if_neg (fun h => h2 h.2)))
                clear HMK h1 h2
                go_wp2
                go_roundw
                case rel => exact ⟨q + 1, Ax, cx, _, _, hlt2, by go_num, by rw [HMK2.out]; exact plus_alloc _, hide (by rw [HMK2.out]; exact (by repeat (first | with_reducible exact HS2.out | with_reducible refine ownK_alloc ?_ _ | with_reducible refine ownK_plus ?_ _ _ | with_reducible refine ownK_drew ?_ | with_reducible refine ownK_drewN ?_ _))), hide (by rw [HMK2.out]; exact HMAP.out.alloc _)⟩
                case measure => simp [RowKit.intOf]; omega
            · have j1 : ¬ (xf : Int) ≤ (yf : Int) := by omega
              have HMK2 := hide (HMK.out.trans (if_neg (fun h => h1 h.1)))
              clear HMK h1
              go_wp2
              go_roundw
              case rel => exact ⟨q + 1, Ax, cx, _, _, hlt2, by go_num, by rw [HMK2.out]; exact plus_alloc _, hide (by rw [HMK2.out]; exact (by repeat (first | with_reducible exact HS2.out | with_reducible refine ownK_alloc ?_ _ | with_reducible refine ownK_plus ?_ _ _ | with_reducible refine ownK_drew ?_ | with_reducible refine ownK_drewN ?_ _))), hide (by rw [HMK2.out]; exact HMAP.out.alloc _)⟩
              case measure => simp [RowKit.intOf]; omega
          · obtain rfl : q = fl.length := by omega
            rw [List.take_length] at HS2 HMAP ⊢
            have hml := marksOf_len fl ⟨xt, xf, xu⟩ TO
            generalize marksOf fl ⟨xt, xf, xu⟩ TO = MS at *
            have hnl := distN_le (MS.map Wd.t)
            rw [List.length_map] at hnl
            have hDN : Go.Maps.size (mapB (MS.map Wd.t)) = distN (MS.map Wd.t) := rfl
            generalize distN (MS.map Wd.t) = N at *
            generalize mapB (MS.map Wd.t) = D at *
            by_cases hn : sn < N
            · have hst := HST.out
              rw [if_pos hn] at hst
              have HST2 := hide hst
              have j1 : (sn : Int) < (N : Int) := by omega
              clear hst HST hn HS HV2
              go_wp2_with (at_len; go_loud (refine wpList_len_own _ rfl _ _ rfl 9 4 Try.underlying53 (plainElem Try.prog 4) _ MS.length _ rfl HMAP.out ?_))
              go_roundw
              case rel => exact ⟨k + 1, (⟨xf, TO, MS⟩, N), Ax, cx, _, _, hlt, rfl, by go_num, plus_nest, HST2, hide (ownK_low (ownK_swap HS2.out (by simp only [plus_size, World.size_alloc]) (by simp only [plus_size, World.size_alloc]; omega)) (by omega)), by simp only; omega⟩
              case measure => simp [RowKit.intOf]; omega
            · have hst := HST.out
              rw [if_neg hn] at hst
              have HST2 := hide hst
              have j1 : ¬ (sn : Int) < (N : Int) := by omega
              clear hst HST hn HV2
              go_wp2_with (at_len; go_loud (refine wpList_len_own _ rfl _ _ rfl 9 4 Try.underlying53 (plainElem Try.prog 4) _ MS.length _ rfl HMAP.out ?_))
              go_roundw
              case rel => exact ⟨k + 1, (⟨sf, su, sms⟩, sn), Am, cm, _, _, hlt, rfl, by go_num, plus_nest, HST2, hide (by repeat (first | with_reducible exact HS.out | with_reducible refine ownK_alloc ?_ _ | with_reducible refine ownK_plus ?_ _ _ | with_reducible refine ownK_drew ?_ | with_reducible refine ownK_drewN ?_ _)), hsn⟩
              case measure => simp [RowKit.intOf]; omega
      · obtain rfl : k = fl.length := by omega
        have hst := HST.out
        rw [List.drop_length] at hst
        have hst : (⟨sf, su, sms⟩, sn) = RES := hst
        have HR2 := hide (HR.out.trans (by rw [← hst]))
        have hle := (HS.out.mks).2.2.1
        clear hst HST HR HFM HLX HIN HWD HFD HWI0 hlt hk
        go_wp2_with (go_at_call 19; refine (clipMk_any _ _ _ _ hle).mono ?_; rintro e w' ⟨rfl, rfl⟩)
        refine bodyPost_ret (v := .tuple #[.agg #[.int .i64 sf, .int .i64 su, .slice Am sms.length sms.length], .int .i64 0]) (by simp [results, Try.results5, go_sem]) rfl ?_
        exact HPO.out ⟨sf, su, sms⟩ 0 Am sms.length _ HR2.out (OwnK.mks (ownK_swap HS.out (by simp only [plus_size, World.size_alloc]) (by simp only [plus_size, World.size_alloc]; omega))).2.2.2 (by repeat (first | with_reducible exact Below.refl _ _ | with_reducible refine bl_plus ?_ | with_reducible refine bl_alloc ?_ _ | with_reducible refine bl_drew ?_ | with_reducible refine bl_drewN ?_ _))

end Go.Proofs.Ytfnooipkghfmoaa
