/-
  WALKS: the reference's ReadQueryOf.
-/
import Derived.Test.YtfklaahakibljaaQryJ
namespace Go.Proofs.Ytfklaahakibljaa
open Go.RowKit Go.Shelf

theorem wrong_any (k : Int) (w : World) : Calls Try.prog 68 #[.int .i64 k] w fun e w' => e = .returned (.tuple #[.agg #[.slice none 0 0], .int .i64 k, .int .i64 8]) ∧ Below w.heap.size w w' := by
  go_enter Try.func68, Try.ntmps68
  go_wp2
  exact bodyPost_ret (v := .tuple #[.agg #[.slice none 0 0], .int .i64 k, .int .i64 8]) (by simp [results, Try.results68, go_sem]) rfl ⟨rfl, (by repeat (first | exact Below.refl _ _ | refine bl_plus ?_ | refine bl_alloc ?_ _ | refine bl_drew ?_))⟩

section
variable {w : World} {t1 t2 t3 : TypeId} {a b c : Array Value} {os : Array Obj} {n : Nat}
theorem size_q1 : ((w.alloc (.cells a t1)).alloc (.cells b t2)).heap.size = w.heap.size + 2 := by simp
theorem size_q2 : ((plus ((w.alloc (.cells a t1)).alloc (.cells b t2)) os n).alloc (.cells c t3)).heap.size = w.heap.size + 2 + os.size + 1 := by simp [plus_size]
end

theorem readQueryOf_large (s : ByteArray) (w : World) (h : 400 < s.size) (_hs : s.size ≤ maxLen) :
    Calls Try.prog 25 #[.string s] w (QOut (ansR s) w) := by
  have hR : ansR s = ([], 0, 4) := if_pos h
  rw [hR]
  have h2 : (400 : Int) < (s.size : Int) := by omega
  clear hR
  go_enter Try.func25, Try.ntmps25
  go_wp2
  exact bodyPost_ret (v := .tuple #[.agg #[.slice none 0 0], .int .i64 0, .int .i64 4]) (by simp [results, Try.results25, go_sem]) rfl ⟨none, 0, rfl, CsIn.nil, (by repeat (first | exact Below.refl _ _ | refine bl_plus ?_ | refine bl_alloc ?_ _ | refine bl_drew ?_))⟩

set_option maxHeartbeats 12800000 in
set_option maxRecDepth 100000 in
theorem readQueryOf_small (s : ByteArray) (w : World) (hs : s.size ≤ 400) :
    Calls Try.prog 25 #[.string s] w (QOut (ansR s) w) := by
  obtain ⟨iP, hiP, hzP0, hzP1, hzP2⟩ := info_parts info_pt
  have HIP := hide (And.intro hiP (And.intro hzP0 (And.intro hzP1 hzP2)))
  obtain ⟨iC, hiC, hzC0, hzC1, hzC2⟩ := info_parts info_cl
  have HIC := hide (And.intro hiC (And.intro hzC0 (And.intro hzC1 hzC2)))
  clear hiP hzP0 hzP1 hzP2 hiC hzC0 hzC1 hzC2
  have hA : ansR s = (match queryR s 0 [] with | .bad k => ([], k, 8) | .good cs => if 20 < manyOf cs then ([], 0, 4) else (cs, 0, 0)) := if_neg (by omega)
  generalize ansR s = Z at *
  generalize hR : queryR s 0 [] = R at hA
  have HR := hide hR
  have HA := hide hA
  have h2 : ¬ (400 : Int) < (s.size : Int) := by omega
  clear hR hA
  go_enter Try.func25, Try.ntmps25
  go_wp2_with fail
  go_loopw [7, 8] (fun vm vi wx => ∃ (i : Nat) (l : List CV) (A : Option Addr) (c : Nat) (os : Array Obj) (n : Nat), i ≤ s.size ∧ vm = .int .i64 (manyOf (l.map CV.c) : Nat) ∧ vi = .int .i64 i ∧ Hid (OwnK 2 97 wx (w.heap.size + 2) (.slice A l.length c) l.length (flatC l) ∧ PsAll wx l ∧ queryR s i (l.map CV.c) = R ∧ l.length ≤ i) ∧ manyOf (l.map CV.c) ≤ i ∧ wx = plus ((w.alloc (.cells #[.slice none 0 0] 39)).alloc (.cells #[.slice A l.length c] 39)) os n) (fun _ vi _ => s.size - (intOf vi).toNat)
  case atStart => exact ⟨0, [], none, 0, #[], _, Nat.zero_le _, rfl, rfl, hide ⟨OwnK.empty, PsAll.nil, HR.out, by simp⟩, by simp [manyOf], plus_nil.symm⟩
  case round =>
    obtain ⟨i, l, A0, c0, os, n, hi, rfl, rfl, HC, hmany, rfl⟩ := hrel
    have HO := hide HC.out.1
    have HP := hide HC.out.2.1
    have HQ0 := hide HC.out.2.2.1
    have hll := HC.out.2.2.2
    clear HC
    by_cases hlt : i < s.size
    · have i1 : (i : Int) < (s.size : Int) := by omega
      have i0 : (0 : Int) ≤ (i : Int) := by omega
      have hqr := HQ0.out
      rw [queryR_step s i _ hlt] at hqr
      have x1 : IntKind.i64.wrap ((i : Int) + 1) = ((i + 1 : Nat) : Int) := by rw [wrap_small] <;> omega
      by_cases h32 : (s[i].toNat : Int) = 32
      · rw [if_pos (by rw [sb_at hlt]; omega)] at hqr
        have HQ1 := hide hqr
        have c32 : ((s[i].toNat : Int) == 32) = true := by rw [h32]; rfl
        clear hqr h32
        go_wp2_with fail
        go_roundw
        case rel => exact ⟨i + 1, l, A0, c0, os, n, hlt, rfl, by go_num, hide ⟨HO.out, HP.out, HQ1.out, by omega⟩, by omega, rfl⟩
        case measure => simp [intOf]; omega
      · rw [if_neg (by rw [sb_at hlt]; omega)] at hqr
        have hsb := startOf_bd hlt
        have c32 : ((s[i].toNat : Int) == 32) = false := beq_eq_false_iff_ne.2 h32
        have hneg : ((sb s i).toNat == 45) = ((s[i].toNat : Int) == 45) := by
          rw [sb_at hlt]
          by_cases h : s[i].toNat = 45
          · rw [h]; rfl
          · rw [beq_eq_false_iff_ne.2 h]; exact (beq_eq_false_iff_ne.2 (by omega)).symm
        have hst : startOf s i = if ((s[i].toNat : Int) == 45) = true then i + 1 else i := by
          unfold startOf
          rw [sb_at hlt]
          by_cases h : s[i].toNat = 45
          · rw [if_pos h, if_pos (by rw [h]; rfl)]
          · rw [if_neg h, if_neg (by simp; omega)]
        rw [hneg] at hqr
        generalize hnn : ((s[i].toNat : Int) == 45) = neg at hqr hst hneg
        have HNN := hnn
        generalize startOf s i = i2 at *
        generalize hR2 : partsR s i2 [] = R2 at hqr
        have HR2 := hide hR2
        have HQR := hide hqr
        have HST0 := hide hst
        clear hqr hst hneg hnn hR2 h32
        go_upto_if 30 with (fail)
        go_cut [8] from 31 to 33 (fun vi wx => vi = .int .i64 i2 ∧ wx = (plus ((w.alloc (.cells #[.slice none 0 0] 39)).alloc (.cells #[.slice A0 l.length c0] 39)) os n).alloc (.cells #[.bool neg, .slice none 0 0] 97))
        case first =>
          cases neg
          all_goals
            have hst := HST0.out
            simp only [if_true, if_false, Bool.false_eq_true] at hst
            subst hst
            go_wp2
            go_meet
            exact ⟨by trivial, rfl⟩
        case rest =>
          obtain ⟨rfl, rfl⟩ := hcut
          clear HNN HST0
          go_wp2_with fail
          go_loopw [7, 8] (fun vm vi wx => ∃ (j : Nat) (lp : List PV) (A : Option Addr) (c : Nat) (os2 : Array Obj) (n2 : Nat), j ≤ s.size ∧ vm = .int .i64 (manyOf (l.map CV.c) + lp.length : Nat) ∧ vi = .int .i64 j ∧ Hid (OwnK 2 102 wx (w.heap.size + 2 + os.size + 1) (.slice A lp.length c) lp.length (flatP lp) ∧ WsIn wx lp ∧ partsR s j (lp.map PV.p) = R2) ∧ (manyOf (l.map CV.c) + lp.length ≤ j ∧ i ≤ j) ∧ wx = plus ((plus ((w.alloc (.cells #[.slice none 0 0] 39)).alloc (.cells #[.slice A0 l.length c0] 39)) os n).alloc (.cells #[.bool neg, .slice A lp.length c] 97)) os2 n2) (fun _ vi _ => s.size + 1 - (intOf vi).toNat)
          case atStart => exact ⟨i2, [], none, 0, #[], _, hsb.2, rfl, rfl, hide ⟨OwnK.empty, WsIn.nil, HR2.out⟩, ⟨by simp; omega, hsb.1⟩, plus_nil.symm⟩
          case round =>
            obtain ⟨j, lp, A1, c1, os2, n2, hj, rfl, rfl, HC, hlen2, rfl⟩ := hrel
            have HPO := hide HC.out.1
            have HWS := hide HC.out.2.1
            have hstep := partsR_step s j (lp.map PV.p) hj
            rw [HC.out.2.2] at hstep
            have hpt := fun w' => partAt_any s j w' hj hs
            cases hp : partR s j with
            | bad k =>
              rw [hp] at hstep hpt
              simp only at hstep
              have HPT := hide hpt
              have hRb : R = .bad k := by rw [← HQR.out, hstep]
              have hZ := HA.out
              rw [hRb] at hZ
              simp only at hZ
              have HZ := hide hZ
              clear hpt hp hstep hRb HC hZ
              go_wp2_with (first | (go_at_call 69; refine (HPT.out _).mono ?_; rintro e w' ⟨k', A, m, c, rfl, hb⟩; obtain ⟨os9, n9, rfl⟩ := below_plus hb; clear hb) | (go_at_call 68; refine (wrong_any _ _).mono ?_; rintro e w' ⟨rfl, hb⟩; obtain ⟨os11, n11, rfl⟩ := below_plus hb; clear hb))
              rw [HZ.out]
              exact bodyPost_ret (v := .tuple #[.agg #[.slice none 0 0], .int .i64 k, .int .i64 8]) (by simp [results, Try.results25, go_sem]) rfl ⟨none, 0, rfl, CsIn.nil, (by repeat (first | exact Below.refl _ _ | refine bl_plus ?_ | refine bl_alloc ?_ _ | refine bl_drew ?_))⟩
            | good p j2 =>
              have hnx := partR_next hj hp
              rw [hp] at hstep hpt
              simp only at hstep
              obtain ⟨pk, pw⟩ := p
              have HPT := hide hpt
              have x7 : IntKind.i64.wrap ((manyOf (l.map CV.c) + lp.length : Nat) + 1 : Int) = ((manyOf (l.map CV.c) + (lp.length + 1) : Nat) : Int) := by rw [wrap_small] <;> omega
              clear hpt hp HC
              by_cases hjs : j2 < s.size
              · have k1 : (j2 : Int) < (s.size : Int) := by omega
                have k0 : (0 : Int) ≤ (j2 : Int) := by omega
                rw [sb_at hjs] at hstep
                by_cases h124 : (s[j2].toNat : Int) = 124
                · rw [if_pos ⟨by omega, hjs⟩] at hstep
                  have HST := hide hstep.symm
                  have c124 : ((s[j2].toNat : Int) == 124) = true := by rw [h124]; rfl
                  have x8 : IntKind.i64.wrap ((j2 : Int) + 1) = ((j2 + 1 : Nat) : Int) := by rw [wrap_small] <;> omega
                  clear hstep h124
                  go_wp2_with (first | (go_at_call 69; refine (HPT.out _).mono ?_; rintro e w' ⟨A, c, rfl, hst, hb⟩; obtain ⟨os9, n9, rfl⟩ := below_plus hb; have HS := hide hst; clear hst hb) | (at_builtin; refine wpList_append_k rfl (.tmp 50) (.tmp 52) rfl rfl Try.underlying95 HIP.out.1 HIP.out.2.1 HIP.out.2.2.1 (by decide) rfl (by have := HIP.out.2.2.2; omega) (w.heap.size + 2 + os.size + 1) lp.length (.slice A1 lp.length c1) (flatP lp) (PV.cells ⟨⟨pk, pw⟩, A, c⟩) _ rfl (by repeat (first | with_reducible exact HPO.out | with_reducible refine OwnK.alloc ?_ _ | with_reducible refine OwnK.plus ?_ _ _)) rfl (by intro u hu; simp only [PV.cells, List.mem_cons, List.not_mem_nil, or_false] at hu; rcases hu with rfl | rfl <;> rfl) rfl (new2_cells (by simp only [plus_size, World.size_alloc])) (by omega) (by simp only [World.size_alloc, plus_size]; omega) ?_; intro v' w1 hown1 hgr1 hfr1; have HKG := hide (keepT_grown (t := 9) (e := 102) (K := 2) (base := (w.heap.size + 2 + os.size + 1)) (n := lp.length) (v := .slice A1 lp.length c1) (xs := flatP lp) (by repeat (first | with_reducible exact HPO.out | with_reducible refine OwnK.alloc ?_ _ | with_reducible refine OwnK.plus ?_ _ _)) hgr1 (by decide)); have HN0 := hide hown1; obtain ⟨os10, n10, rfl⟩ := grown_plus (L := ((plus ((w.alloc (.cells #[.slice none 0 0] 39)).alloc (.cells #[.slice A0 l.length c0] 39)) os n).alloc (.cells #[.bool neg, .slice A1 lp.length c1] 97))) (by repeat (first | exact Below.refl _ _ | refine bl_plus ?_ | refine bl_alloc ?_ _ | refine bl_drew ?_)) hgr1 (fun q hq => by rw [size_q2]; exact (HPO.out.lt q hq).1); obtain ⟨A2, c2, rfl, _⟩ := hown1.form; have HN := hide hown1; clear hown1 hgr1 hfr1 HN0))
                  go_roundw
                  case rel => exact ⟨j2 + 1, lp ++ [⟨⟨pk, pw⟩, A, c⟩], A2, c2, _, _, hjs, by go_num, by go_num, hide ⟨(by rw [flatP_snoc, List.length_append]; exact HN.out.plus2 (Nat.le_of_eq size_q2) (by rw [size_q2, size_q2])), ((((HWS.out.keep ((((KeepT.refl 9 _).plus _ _).alloc _).alloc _)).snoc (x := ⟨⟨pk, pw⟩, A, c⟩) (HS.out.keep (((KeepT.refl _ _).alloc _).alloc _))).keep HKG.out).keep ((((KeepT.refl 9 _).alloc2 rfl (by decide)).plus2 (by simp)))), by rw [List.map_append]; exact HST.out⟩, by rw [List.length_append, List.length_cons, List.length_nil]; omega, by rw [List.length_append]; rfl⟩
                  case measure => simp [intOf]; omega
                · rw [if_neg (fun h => h124 (by omega))] at hstep
                  have c124 : ((s[j2].toNat : Int) == 124) = false := beq_eq_false_iff_ne.2 h124
                  by_cases h32 : (s[j2].toNat : Int) = 32
                  · rw [if_neg (fun h => h.2 (by omega))] at hstep
                    have c32 : ((s[j2].toNat : Int) != 32) = false := by rw [h32]; rfl
                    have HST := hide hstep.symm
                    clear hstep h124 h32
                    generalize hps : lp.map PV.p ++ [(⟨pk, pw⟩ : Pt)] = ps at *
                    have hpl : lp.length + 1 = ps.length := by rw [← hps]; simp
                    have HPS := hide hps
                    have HPL := hide hpl
                    clear hps hpl
                    have hqr := HQR.out
                    rw [← HST.out] at hqr
                    have HQ := hide hqr
                    clear hqr HST
                    go_wp2_with (first | (go_at_call 69; refine (HPT.out _).mono ?_; rintro e w' ⟨A, c, rfl, hst, hb⟩; obtain ⟨os9, n9, rfl⟩ := below_plus hb; have HS := hide hst; clear hst hb) | (at_builtin; refine wpList_append_k rfl (.tmp 50) (.tmp 52) rfl rfl Try.underlying95 HIP.out.1 HIP.out.2.1 HIP.out.2.2.1 (by decide) rfl (by have := HIP.out.2.2.2; omega) (w.heap.size + 2 + os.size + 1) lp.length (.slice A1 lp.length c1) (flatP lp) (PV.cells ⟨⟨pk, pw⟩, A, c⟩) _ rfl (by repeat (first | with_reducible exact HPO.out | with_reducible refine OwnK.alloc ?_ _ | with_reducible refine OwnK.plus ?_ _ _)) rfl (by intro u hu; simp only [PV.cells, List.mem_cons, List.not_mem_nil, or_false] at hu; rcases hu with rfl | rfl <;> rfl) rfl (new2_cells (by simp only [plus_size, World.size_alloc])) (by omega) (by simp only [World.size_alloc, plus_size]; omega) ?_; intro v' w1 hown1 hgr1 hfr1; have HKG := hide (keepT_grown (t := 9) (e := 102) (K := 2) (base := (w.heap.size + 2 + os.size + 1)) (n := lp.length) (v := .slice A1 lp.length c1) (xs := flatP lp) (by repeat (first | with_reducible exact HPO.out | with_reducible refine OwnK.alloc ?_ _ | with_reducible refine OwnK.plus ?_ _ _)) hgr1 (by decide)); have HN0 := hide hown1; obtain ⟨os10, n10, rfl⟩ := grown_plus (L := ((plus ((w.alloc (.cells #[.slice none 0 0] 39)).alloc (.cells #[.slice A0 l.length c0] 39)) os n).alloc (.cells #[.bool neg, .slice A1 lp.length c1] 97))) (by repeat (first | exact Below.refl _ _ | refine bl_plus ?_ | refine bl_alloc ?_ _ | refine bl_drew ?_)) hgr1 (fun q hq => by rw [size_q2]; exact (HPO.out.lt q hq).1); obtain ⟨A2, c2, rfl, _⟩ := hown1.form; have HN := hide hown1; clear hown1 hgr1 hfr1 HN0) | (at_builtin; refine wpList_append_k rfl (.tmp 87) (.tmp 89) rfl rfl Try.underlying37 HIC.out.1 HIC.out.2.1 HIC.out.2.2.1 (by decide) rfl (by have := HIC.out.2.2.2; omega) (w.heap.size + 2) l.length (.slice A0 l.length c0) (flatC l) [.bool neg, .slice A2 (lp.length + 1) c2] _ rfl (by repeat (first | with_reducible exact HO.out | with_reducible refine OwnK.alloc ?_ _ | with_reducible refine OwnK.plus ?_ _ _)) rfl (by intro u hu; simp only [List.mem_cons, List.not_mem_nil, or_false] at hu; rcases hu with rfl | rfl <;> rfl) rfl (new2_cells (by simp only [plus_size, World.size_alloc])) (by omega) (by simp only [World.size_alloc, plus_size]; omega) ?_; intro v' w1 hown1 hgr1 hfr1; have HKS := hide (keepT_grown (t := 9) (e := 97) (K := 2) (base := w.heap.size + 2) (n := l.length) (v := .slice A0 l.length c0) (xs := flatC l) (by repeat (first | with_reducible exact HO.out | with_reducible refine OwnK.alloc ?_ _ | with_reducible refine OwnK.plus ?_ _ _)) hgr1 (by decide)); have HKP := hide (keepT_grown (t := 102) (e := 97) (K := 2) (base := w.heap.size + 2) (n := l.length) (v := .slice A0 l.length c0) (xs := flatC l) (by repeat (first | with_reducible exact HO.out | with_reducible refine OwnK.alloc ?_ _ | with_reducible refine OwnK.plus ?_ _ _)) hgr1 (by decide)); obtain ⟨os12, n12, rfl⟩ := grown_plus (L := ((w.alloc (.cells #[.slice none 0 0] 39)).alloc (.cells #[.slice A0 l.length c0] 39))) (by repeat (first | exact Below.refl _ _ | refine bl_plus ?_ | refine bl_alloc ?_ _ | refine bl_drew ?_)) hgr1 (fun q hq => by rw [size_q1]; exact (HO.out.lt q hq).1); obtain ⟨A3, c3, rfl, _⟩ := hown1.form; have HN3 := hide hown1; clear hown1 hgr1 hfr1))
                    go_roundw
                    case rel => exact ⟨j2, l ++ [⟨⟨neg, ps⟩, A2, c2⟩], A3, c3, _, _, hnx.2, (by rw [List.map_append]; show Value.int .i64 _ = .int .i64 (manyOf (l.map CV.c ++ [(⟨neg, ps⟩ : Cl)]) : Nat); rw [manyOf_snoc, ← HPL.out]; exact congrArg _ (by omega)), by go_num, hide ⟨(by rw [flatC_snoc, List.length_append]; show OwnK 2 97 _ _ _ _ (flatC l ++ [.bool neg, .slice A2 ps.length c2]); rw [← HPL.out]; exact HN3.out.plus2 (Nat.le_of_eq size_q1) (by rw [size_q1, size_q1])), (((HP.out.keep ((((KeepT.refl 9 _).alloc _).plus _ _).alloc _) ((((KeepT.refl 102 _).alloc _).plus _ _).alloc _)).snoc (x := ⟨⟨neg, ps⟩, A2, c2⟩) (PsIn.keep (by have h := (psIn_own (l := lp ++ [⟨⟨pk, pw⟩, A, c⟩]) (by rw [flatP_snoc]; exact HN.out) (((HWS.out.keep ((((KeepT.refl 9 _).plus _ _).alloc _).alloc _)).snoc (x := ⟨⟨pk, pw⟩, A, c⟩) (HS.out.keep (((KeepT.refl _ _).alloc _).alloc _))).keep HKG.out)).2.2.2; rw [List.map_append] at h; exact HPS.out ▸ h) (((((KeepT.refl 9 _).alloc2 rfl (by decide)).plus2 (by simp))).alloc _) (((((KeepT.refl 102 _).alloc2 rfl (by decide)).plus2 (by simp))).alloc _))).keep (HKS.out.trans ((((KeepT.refl 9 _).alloc2 rfl (by decide)).plus2 (by simp)))) (HKP.out.trans ((((KeepT.refl 102 _).alloc2 rfl (by decide)).plus2 (by simp))))), by rw [List.map_append]; exact HQ.out, by rw [List.length_append, List.length_cons, List.length_nil]; omega⟩, (by rw [List.map_append]; show manyOf (l.map CV.c ++ [(⟨neg, ps⟩ : Cl)]) ≤ _; rw [manyOf_snoc, ← HPL.out]; omega), by rw [List.length_append]; rfl⟩
                    case measure => simp [intOf]; omega
                  · rw [if_pos ⟨hjs, by omega⟩] at hstep
                    have c32 : ((s[j2].toNat : Int) != 32) = true := bne_iff_ne.2 h32
                    have hRb : R = .bad j2 := by rw [← HQR.out, hstep]
                    have hZ := HA.out
                    rw [hRb] at hZ
                    simp only at hZ
                    have HZ := hide hZ
                    clear hstep hRb hZ h124 h32
                    go_wp2_with (first | (go_at_call 69; refine (HPT.out _).mono ?_; rintro e w' ⟨A, c, rfl, hst, hb⟩; obtain ⟨os9, n9, rfl⟩ := below_plus hb; have HS := hide hst; clear hst hb) | (at_builtin; refine wpList_append_k rfl (.tmp 50) (.tmp 52) rfl rfl Try.underlying95 HIP.out.1 HIP.out.2.1 HIP.out.2.2.1 (by decide) rfl (by have := HIP.out.2.2.2; omega) (w.heap.size + 2 + os.size + 1) lp.length (.slice A1 lp.length c1) (flatP lp) (PV.cells ⟨⟨pk, pw⟩, A, c⟩) _ rfl (by repeat (first | with_reducible exact HPO.out | with_reducible refine OwnK.alloc ?_ _ | with_reducible refine OwnK.plus ?_ _ _)) rfl (by intro u hu; simp only [PV.cells, List.mem_cons, List.not_mem_nil, or_false] at hu; rcases hu with rfl | rfl <;> rfl) rfl (new2_cells (by simp only [plus_size, World.size_alloc])) (by omega) (by simp only [World.size_alloc, plus_size]; omega) ?_; intro v' w1 hown1 hgr1 hfr1; have HKG := hide (keepT_grown (t := 9) (e := 102) (K := 2) (base := (w.heap.size + 2 + os.size + 1)) (n := lp.length) (v := .slice A1 lp.length c1) (xs := flatP lp) (by repeat (first | with_reducible exact HPO.out | with_reducible refine OwnK.alloc ?_ _ | with_reducible refine OwnK.plus ?_ _ _)) hgr1 (by decide)); have HN0 := hide hown1; obtain ⟨os10, n10, rfl⟩ := grown_plus (L := ((plus ((w.alloc (.cells #[.slice none 0 0] 39)).alloc (.cells #[.slice A0 l.length c0] 39)) os n).alloc (.cells #[.bool neg, .slice A1 lp.length c1] 97))) (by repeat (first | exact Below.refl _ _ | refine bl_plus ?_ | refine bl_alloc ?_ _ | refine bl_drew ?_)) hgr1 (fun q hq => by rw [size_q2]; exact (HPO.out.lt q hq).1); obtain ⟨A2, c2, rfl, _⟩ := hown1.form; have HN := hide hown1; clear hown1 hgr1 hfr1 HN0) | (go_at_call 68; refine (wrong_any _ _).mono ?_; rintro e w' ⟨rfl, hb⟩; obtain ⟨os11, n11, rfl⟩ := below_plus hb; clear hb))
                    rw [HZ.out]
                    exact bodyPost_ret (v := .tuple #[.agg #[.slice none 0 0], .int .i64 j2, .int .i64 8]) (by simp [results, Try.results25, go_sem]) rfl ⟨none, 0, rfl, CsIn.nil, (by repeat (first | exact Below.refl _ _ | refine bl_plus ?_ | refine bl_alloc ?_ _ | refine bl_drew ?_))⟩
              · have k1 : ¬ (j2 : Int) < (s.size : Int) := by omega
                rw [if_neg (fun h => hjs h.2), if_neg (fun h => hjs h.1)] at hstep
                have HST := hide hstep.symm
                clear hstep
                generalize hps : lp.map PV.p ++ [(⟨pk, pw⟩ : Pt)] = ps at *
                have hpl : lp.length + 1 = ps.length := by rw [← hps]; simp
                have HPS := hide hps
                have HPL := hide hpl
                clear hps hpl
                have hqr := HQR.out
                rw [← HST.out] at hqr
                have HQ := hide hqr
                clear hqr HST
                go_wp2_with (first | (go_at_call 69; refine (HPT.out _).mono ?_; rintro e w' ⟨A, c, rfl, hst, hb⟩; obtain ⟨os9, n9, rfl⟩ := below_plus hb; have HS := hide hst; clear hst hb) | (at_builtin; refine wpList_append_k rfl (.tmp 50) (.tmp 52) rfl rfl Try.underlying95 HIP.out.1 HIP.out.2.1 HIP.out.2.2.1 (by decide) rfl (by have := HIP.out.2.2.2; omega) (w.heap.size + 2 + os.size + 1) lp.length (.slice A1 lp.length c1) (flatP lp) (PV.cells ⟨⟨pk, pw⟩, A, c⟩) _ rfl (by repeat (first | with_reducible exact HPO.out | with_reducible refine OwnK.alloc ?_ _ | with_reducible refine OwnK.plus ?_ _ _)) rfl (by intro u hu; simp only [PV.cells, List.mem_cons, List.not_mem_nil, or_false] at hu; rcases hu with rfl | rfl <;> rfl) rfl (new2_cells (by simp only [plus_size, World.size_alloc])) (by omega) (by simp only [World.size_alloc, plus_size]; omega) ?_; intro v' w1 hown1 hgr1 hfr1; have HKG := hide (keepT_grown (t := 9) (e := 102) (K := 2) (base := (w.heap.size + 2 + os.size + 1)) (n := lp.length) (v := .slice A1 lp.length c1) (xs := flatP lp) (by repeat (first | with_reducible exact HPO.out | with_reducible refine OwnK.alloc ?_ _ | with_reducible refine OwnK.plus ?_ _ _)) hgr1 (by decide)); have HN0 := hide hown1; obtain ⟨os10, n10, rfl⟩ := grown_plus (L := ((plus ((w.alloc (.cells #[.slice none 0 0] 39)).alloc (.cells #[.slice A0 l.length c0] 39)) os n).alloc (.cells #[.bool neg, .slice A1 lp.length c1] 97))) (by repeat (first | exact Below.refl _ _ | refine bl_plus ?_ | refine bl_alloc ?_ _ | refine bl_drew ?_)) hgr1 (fun q hq => by rw [size_q2]; exact (HPO.out.lt q hq).1); obtain ⟨A2, c2, rfl, _⟩ := hown1.form; have HN := hide hown1; clear hown1 hgr1 hfr1 HN0) | (at_builtin; refine wpList_append_k rfl (.tmp 87) (.tmp 89) rfl rfl Try.underlying37 HIC.out.1 HIC.out.2.1 HIC.out.2.2.1 (by decide) rfl (by have := HIC.out.2.2.2; omega) (w.heap.size + 2) l.length (.slice A0 l.length c0) (flatC l) [.bool neg, .slice A2 (lp.length + 1) c2] _ rfl (by repeat (first | with_reducible exact HO.out | with_reducible refine OwnK.alloc ?_ _ | with_reducible refine OwnK.plus ?_ _ _)) rfl (by intro u hu; simp only [List.mem_cons, List.not_mem_nil, or_false] at hu; rcases hu with rfl | rfl <;> rfl) rfl (new2_cells (by simp only [plus_size, World.size_alloc])) (by omega) (by simp only [World.size_alloc, plus_size]; omega) ?_; intro v' w1 hown1 hgr1 hfr1; have HKS := hide (keepT_grown (t := 9) (e := 97) (K := 2) (base := w.heap.size + 2) (n := l.length) (v := .slice A0 l.length c0) (xs := flatC l) (by repeat (first | with_reducible exact HO.out | with_reducible refine OwnK.alloc ?_ _ | with_reducible refine OwnK.plus ?_ _ _)) hgr1 (by decide)); have HKP := hide (keepT_grown (t := 102) (e := 97) (K := 2) (base := w.heap.size + 2) (n := l.length) (v := .slice A0 l.length c0) (xs := flatC l) (by repeat (first | with_reducible exact HO.out | with_reducible refine OwnK.alloc ?_ _ | with_reducible refine OwnK.plus ?_ _ _)) hgr1 (by decide)); obtain ⟨os12, n12, rfl⟩ := grown_plus (L := ((w.alloc (.cells #[.slice none 0 0] 39)).alloc (.cells #[.slice A0 l.length c0] 39))) (by repeat (first | exact Below.refl _ _ | refine bl_plus ?_ | refine bl_alloc ?_ _ | refine bl_drew ?_)) hgr1 (fun q hq => by rw [size_q1]; exact (HO.out.lt q hq).1); obtain ⟨A3, c3, rfl, _⟩ := hown1.form; have HN3 := hide hown1; clear hown1 hgr1 hfr1))
                go_roundw
                case rel => exact ⟨j2, l ++ [⟨⟨neg, ps⟩, A2, c2⟩], A3, c3, _, _, hnx.2, (by rw [List.map_append]; show Value.int .i64 _ = .int .i64 (manyOf (l.map CV.c ++ [(⟨neg, ps⟩ : Cl)]) : Nat); rw [manyOf_snoc, ← HPL.out]; exact congrArg _ (by omega)), by go_num, hide ⟨(by rw [flatC_snoc, List.length_append]; show OwnK 2 97 _ _ _ _ (flatC l ++ [.bool neg, .slice A2 ps.length c2]); rw [← HPL.out]; exact HN3.out.plus2 (Nat.le_of_eq size_q1) (by rw [size_q1, size_q1])), (((HP.out.keep ((((KeepT.refl 9 _).alloc _).plus _ _).alloc _) ((((KeepT.refl 102 _).alloc _).plus _ _).alloc _)).snoc (x := ⟨⟨neg, ps⟩, A2, c2⟩) (PsIn.keep (by have h := (psIn_own (l := lp ++ [⟨⟨pk, pw⟩, A, c⟩]) (by rw [flatP_snoc]; exact HN.out) (((HWS.out.keep ((((KeepT.refl 9 _).plus _ _).alloc _).alloc _)).snoc (x := ⟨⟨pk, pw⟩, A, c⟩) (HS.out.keep (((KeepT.refl _ _).alloc _).alloc _))).keep HKG.out)).2.2.2; rw [List.map_append] at h; exact HPS.out ▸ h) (((((KeepT.refl 9 _).alloc2 rfl (by decide)).plus2 (by simp))).alloc _) (((((KeepT.refl 102 _).alloc2 rfl (by decide)).plus2 (by simp))).alloc _))).keep (HKS.out.trans ((((KeepT.refl 9 _).alloc2 rfl (by decide)).plus2 (by simp)))) (HKP.out.trans ((((KeepT.refl 102 _).alloc2 rfl (by decide)).plus2 (by simp))))), by rw [List.map_append]; exact HQ.out, by rw [List.length_append, List.length_cons, List.length_nil]; omega⟩, (by rw [List.map_append]; show manyOf (l.map CV.c ++ [(⟨neg, ps⟩ : Cl)]) ≤ _; rw [manyOf_snoc, ← HPL.out]; omega), by rw [List.length_append]; rfl⟩
                case measure => simp [intOf]; omega
    · have hie : i = s.size := by omega
      have i1 : ¬ (i : Int) < (s.size : Int) := by omega
      have hq := HQ0.out
      rw [queryR_over s i _ (by omega)] at hq
      have hcs := csIn_own HO.out HP.out
      have hZ := HA.out
      rw [← hq] at hZ
      simp only at hZ
      have hml : l.length = (l.map CV.c).length := by rw [List.length_map]
      have HCS := hide hcs.2.2.2
      clear HQ0 hq hcs HO HP HA HR hie HIP HIC
      generalize l.map CV.c = cs at *
      generalize l.length = L at *
      subst hml
      by_cases h20 : 20 < manyOf cs
      · rw [if_pos h20] at hZ
        have h21 : (20 : Int) < (manyOf cs : Int) := by omega
        subst hZ
        go_wp2
        exact bodyPost_ret (v := .tuple #[.agg #[.slice none 0 0], .int .i64 0, .int .i64 4]) (by simp [results, Try.results25, go_sem]) rfl ⟨none, 0, rfl, CsIn.nil, (by repeat (first | exact Below.refl _ _ | refine bl_plus ?_ | refine bl_alloc ?_ _ | refine bl_drew ?_))⟩
      · rw [if_neg h20] at hZ
        have h21 : ¬ (20 : Int) < (manyOf cs : Int) := by omega
        subst hZ
        go_wp2
        exact bodyPost_ret (v := .tuple #[.agg #[.slice A0 cs.length c0], .int .i64 0, .int .i64 0]) (by simp [results, Try.results25, go_sem]) rfl ⟨A0, c0, rfl, HCS.out.keep ((((KeepT.refl 9 w).alloc2 rfl (by decide)).alloc2 (by simp) (by decide)).plus2 (by simp)) ((((KeepT.refl 102 w).alloc2 rfl (by decide)).alloc2 (by simp) (by decide)).plus2 (by simp)) ((((KeepT.refl 97 w).alloc2 rfl (by decide)).alloc2 (by simp) (by decide)).plus2 (by simp)), (by repeat (first | exact Below.refl _ _ | refine bl_plus ?_ | refine bl_alloc ?_ _ | refine bl_drew ?_))⟩

theorem readQueryOf_any (s : ByteArray) (w : World) (hs : s.size ≤ maxLen) :
    Calls Try.prog 25 #[.string s] w (QOut (ansR s) w) := by
  by_cases h : s.size ≤ 400
  · exact readQueryOf_small s w h
  · exact readQueryOf_large s w (by omega) hs

end Go.Proofs.Ytfklaahakibljaa
