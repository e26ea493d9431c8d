/-
  WALK: the fold of values of which none is None, in the program.
-/
import Derived.Test.YtfnooipkghfmoaaDoorFdd
import Derived.Test.YtfnooipkghfmoaaDoorFds
import Derived.Test.YtfnooipkghfmoaaDoorCfb
import Derived.Test.YtfnooipkghfmoaaDoorCpv
import Derived.Test.YtfnooipkghfmoaaDoorPvg
import Derived.Test.YtfnooipkghfmoaaDoorPvn
set_option linter.all false
namespace Go.Proofs.YtfnooipkghfmoaaDoor
open Go.RowKit Go.Lib

theorem foldR_count {w0 : World} (xs : List (In0 w0)) : foldR 1 xs = (numV xs.length, 0) := rfl
theorem foldR_diff {w0 : World} (xs : List (In0 w0)) : foldR 2 xs = (numV (cntZ (stL xs) xs.length), 0) := rfl
theorem foldR_sum {w0 : World} (xs : List (In0 w0)) : foldR 3 xs = if sumN xs < -1000000000 ∨ 1000000000 < sumN xs then (zeroV, 2) else (numV (sumN xs), 0) := rfl
theorem foldR_mean {w0 : World} (xs : List (In0 w0)) : foldR 6 xs = if cntN xs = 0 then (zeroV, 0) else (numV (sumN xs / cntN xs), 0) := rfl
theorem foldR_least {w0 : World} (xs : List (In0 w0)) : foldR 4 xs = if xs.length = 0 then (zeroV, (0 : Int)) else ((stL xs)[0]!.1.x, 0) := rfl
theorem foldR_most {w0 : World} (xs : List (In0 w0)) : foldR 5 xs = if xs.length = 0 then (zeroV, (0 : Int)) else ((stL xs)[xs.length - 1]!.1.x, 0) := rfl
theorem own_same (A : Option Addr) (n c m d : Nat) : (Value.slice A n c).ownBlock = (Value.slice A m d).ownBlock := by cases A <;> rfl
/-- A value in new memory and an error are handed back. -/
def FoldNew (r : V × Int) (w : World) (e : Ending) (w' : World) : Prop :=
  ∃ A c, e = .returned (.tuple #[r.1.arg A c, .int .i64 r.2]) ∧ LIn w' (fun b => w.heap.size ≤ b ∧ b < w'.heap.size) A r.1.l ∧ Below w.heap.size w w'

set_option maxHeartbeats 12800000 in
set_option maxRecDepth 100000 in
theorem fold_any {w0 : World} (how : Int) (h1 : 1 ≤ how) (h6 : how ≤ 6) (A : Option Addr) (c : Nat) (xs : List (In0 w0)) (W : World) (hsame : ∀ b, b < w0.heap.size → W.heap[b]? = w0.heap[b]?) (hW : w0.heap.size ≤ W.heap.size)
    (hA : VsC W A xs) (hn : xs.length ≤ 5000) (hnum : NumsIn xs) (hfit : ∀ q ∈ xs, q.v.fits) :
    Calls Tryd.prog 15 #[.int .i64 how, .slice A xs.length c] W (FoldNew (foldR how xs) W) := by
  have HCL := hide (fun W' (hb : Below W.heap.size W W') => cloneVs_any A c xs W' (hA.below hb) hn)
  have HST := hide (fun (A1 : Option Addr) (c1 : Nat) W' (hb : Below W.heap.size W W') (ho : OwnK 5 24 W' w0.heap.size (.slice A1 xs.length c1) xs.length (flat0 xs)) =>
    sortStable_any (fun x y A B c d w => comparePG x y A B c d w) (fun args w => Go.Proofs.enters_of Tryd.func52 (by kernel_rfl) rfl args w) A1 c1 xs W' (fun b h => (hb.block b (by omega)).trans (hsame b h)) (Nat.le_trans hW hb.size) ho (by omega))
  have HCF := hide (fun (A1 : Option Addr) (c1 : Nat) W' (hb : Below W.heap.size W W') (ho : OwnK 5 24 W' w0.heap.size (.slice A1 xs.length c1) xs.length (flat0 (stL xs))) =>
    (compactV_any 54 eqBy_fold A1 c1 (stL xs) xs.length (stL_len xs) W' (fun b h => (hb.block b (by omega)).trans (hsame b h)) (Nat.le_trans hW hb.size) ho (by omega) : Calls Tryd.prog 20 #[.slice A1 xs.length c1, .func (.func 54) #[] #[]] W' (CompOut (cntZ (stL xs) xs.length) A1 W')))
  have HAT := hide (fun W' (hb : Below W.heap.size W W') (q : In0 w0) => q.at_ (W := W') (fun b h => (hb.block b (by omega)).trans (hsame b h)) (Nat.le_trans hW hb.size))
  have HPO := hide (show ∀ (A' : Option Addr) (c' : Nat) (k i t : Int) (s : ByteArray) (l : List V) (r : Int) (w' : World), foldR how xs = (.mk k i t s l, r) → LIn w' (fun b => W.heap.size ≤ b ∧ b < w'.heap.size) A' l → Below W.heap.size W w' → FoldNew (foldR how xs) W (.returned (.tuple #[.agg #[.int .i64 k, .int .i64 i, .int .i64 t, .string s, .slice A' l.length c'], .int .i64 r])) w' by
    intro A' c' k i t s l r w' e h1 h2
    rw [e]
    exact ⟨A', c', rfl, h1, h2⟩)
  have HFI := hide (show ∀ q ∈ stL xs, q.v.fits from fun q hq => stL_all hfit q hq)
  have hsn := sumN_in hnum
  generalize FoldNew (foldR how xs) W = PO at *
  have HA := hide hA
  have HN := hide hnum
  have hm : xs.length ≤ 5000 := hn
  have HHS := hide (And.intro h1 h6)
  have HWW := hide hW
  clear hA hnum hfit hsame h1 h6 hn hW
  go_enter Tryd.func15, Tryd.ntmps15
  go_wp2_with (first
    | (go_at_call 51; refine (HCL.out _ ?hbw).mono ?_; (case hbw => exact (by repeat (first | with_reducible exact Below.refl _ _ | with_reducible refine bl_plus ?_ | with_reducible refine bl_alloc ?_ _ | with_reducible refine bl_drew ?_ | with_reducible refine bl_drewN ?_ _))); rintro e w' ⟨A1, c1, rfl, hown, hbl⟩; have HO1 := hide hown; obtain ⟨os1, n1, rfl⟩ := below_plus hbl; clear hbl hown)
    | (go_at_call 17; refine (HST.out A1 c1 _ ?hbw ?ho).mono ?_; (case hbw => exact (by repeat (first | with_reducible exact Below.refl _ _ | with_reducible refine bl_plus ?_ | with_reducible refine bl_alloc ?_ _ | with_reducible refine bl_drew ?_ | with_reducible refine bl_drewN ?_ _))); (case ho => exact ownK_low HO1.out (by rw [World.size_alloc]; exact Nat.le_succ_of_le HWW.out)); rintro e w' ⟨rfl, hgr, hown⟩; have HO2 := hide hown; have HLO := hide (fun k hk => (HO1.out.lt k hk).1); obtain ⟨os2, n2, rfl⟩ := grown_plus (L := (W.alloc (.cells #[.int .i64 0, .int .i64 0, .int .i64 0, .string ⟨#[]⟩, .slice none 0 0] 24))) (by repeat (first | with_reducible exact Below.refl _ _ | with_reducible refine bl_plus ?_ | with_reducible refine bl_alloc ?_ _ | with_reducible refine bl_drew ?_ | with_reducible refine bl_drewN ?_ _)) hgr HLO.out; clear hgr hown HO1))
  clear HCL HST
  have HSL := hide (stL_len xs)
  go_loopw [7, 8, 18] (fun s cc i wr => ∃ (k : Nat) (os : Array Obj) (n : Nat), k ≤ xs.length ∧ s = .int .i64 (sumN (xs.take k)) ∧ cc = .int .i64 ((cntN (xs.take k) : Nat) : Int) ∧ i = .int .i64 k ∧ wr = plus (W.alloc (.cells #[.int .i64 0, .int .i64 0, .int .i64 0, .string ⟨#[]⟩, .slice none 0 0] 24)) os n ∧
    Hid (OwnK 5 24 wr w0.heap.size (.slice A1 xs.length c1) xs.length (flat0 (stL xs)))) (fun _ _ i _ => xs.length - (intOf i).toNat)
  case atStart => exact ⟨0, os2, n2, Nat.zero_le _, rfl, rfl, rfl, rfl, HO2⟩
  case round =>
    obtain ⟨k, os, n, hk, rfl, rfl, rfl, rfl, HS⟩ := hrel
    clear HO2
    by_cases hlt : k < xs.length
    · obtain ⟨b, o, rfl, hb, hv⟩ := HA.out.cells (by omega)
      have c0 := hv k hlt 0 (by decide)
      have c1' := hv k hlt 1 (by decide)
      have c2 := hv k hlt 2 (by decide)
      have c3 := hv k hlt 3 (by decide)
      have c4 := hv k hlt 4 (by decide)
      have ht := List.take_succ_eq_append_getElem hlt
      have hS := sumN_snoc (xs.take k) xs[k]
      have hC := cntN_snoc (xs.take k) xs[k]
      rw [← ht] at hS hC
      have hin := HN.out xs[k] (List.getElem_mem hlt)
      have hsk := sumN_in (xs := xs.take k) (fun q hq => HN.out q (List.mem_of_mem_take hq))
      have hck := cntN_le (xs.take k)
      rw [List.length_take, Nat.min_eq_left (by omega)] at hsk hck
      clear hv ht HHS
      generalize sumN (xs.take k) = S at *
      generalize cntN (xs.take k) = C at *
      generalize xs[k] = x at *
      obtain ⟨⟨⟨xk, xi, xt, xs', xl⟩, xA, xc⟩, hx⟩ := x
      simp only [isNum, In0.cells, CVal.cells, V.k, V.i, V.t, V.s, V.l] at c0 c1' c2 c3 c4 hS hC hin
      simp only [List.getElem?_cons_zero, List.getElem?_cons_succ, Nat.add_zero] at c0 c1' c2 c3 c4
      by_cases h2 : xk = 2
      · subst h2
        simp only [beq_self_eq_true, if_true] at hS hC
        have hin2 := hin rfl
        clear hin hsn
        go_wp2
        go_roundw
        case rel => exact ⟨k + 1, _, _, hlt, by rw [hS], by rw [hC]; go_num, by go_num, by first | rfl | (simp only [plus_alloc, plus_plus, plus_drewN, plus_drew]; rfl), hide (by repeat (first | with_reducible exact HS.out | with_reducible refine ownK_alloc ?_ _ | with_reducible refine ownK_plus ?_ _ _ | with_reducible refine ownK_drew ?_ | with_reducible refine ownK_drewN ?_ _))⟩
        case measure => simp [intOf]; omega
      · have j0 : (xk == 2) = false := beq_eq_false_iff_ne.2 h2
        simp only [j0, Bool.false_eq_true, if_false, Int.add_zero, Nat.add_zero] at hS hC
        clear hin hsn h2
        go_wp2
        go_roundw
        case rel => exact ⟨k + 1, _, _, hlt, by rw [hS], by rw [hC], by go_num, by first | rfl | (simp only [plus_alloc, plus_plus, plus_drewN, plus_drew]; rfl), hide (by repeat (first | with_reducible exact HS.out | with_reducible refine ownK_alloc ?_ _ | with_reducible refine ownK_plus ?_ _ _ | with_reducible refine ownK_drew ?_ | with_reducible refine ownK_drewN ?_ _))⟩
        case measure => simp [intOf]; omega
    · obtain rfl : k = xs.length := by omega
      have hsk := hsn
      have hck := cntN_le xs
      rw [List.take_length]
      clear hsn hlt hk HN HA
      have hhow : how = 1 ∨ how = 2 ∨ how = 3 ∨ how = 4 ∨ how = 5 ∨ how = 6 := by have := HHS.out; omega
      clear HHS
      rcases hhow with rfl | rfl | rfl | rfl | rfl | rfl
      · clear HCF HAT HFI HLO HSL HS
        have HR := hide (foldR_count xs)
        go_wp2_with (go_at_call 53; refine (numberP_any _ _).mono ?_; rintro e w' ⟨rfl, hbl⟩; obtain ⟨os3, n3, rfl⟩ := below_plus hbl; clear hbl)
        refine bodyPost_ret (v := .tuple #[.agg #[.int .i64 2, .int .i64 (xs.length : Int), .int .i64 0, .string ⟨#[]⟩, .slice none 0 0], .int .i64 0]) (by simp [results, Tryd.results15, go_sem]) rfl ?_
        exact HPO.out none 0 2 (xs.length : Int) 0 ⟨#[]⟩ [] 0 _ HR.out (lIn_nil _ _ _) (by repeat (first | with_reducible exact Below.refl _ _ | with_reducible refine bl_plus ?_ | with_reducible refine bl_alloc ?_ _ | with_reducible refine bl_drew ?_ | with_reducible refine bl_drewN ?_ _))
      · clear HAT HFI HSL
        have HR := hide (foldR_diff xs)
        go_wp2_with (first
          | (go_at_call 53; refine (numberP_any _ _).mono ?_; rintro e w' ⟨rfl, hbl⟩; obtain ⟨os3, n3, rfl⟩ := below_plus hbl; clear hbl)
          | (go_at_call 20; refine (HCF.out A1 c1 _ ?hbw ?ho).mono ?_; (case hbw => exact (by repeat (first | with_reducible exact Below.refl _ _ | with_reducible refine bl_plus ?_ | with_reducible refine bl_alloc ?_ _ | with_reducible refine bl_drew ?_ | with_reducible refine bl_drewN ?_ _))); (case ho => exact (by repeat (first | with_reducible exact HS.out | with_reducible refine ownK_alloc ?_ _ | with_reducible refine ownK_plus ?_ _ _ | with_reducible refine ownK_drew ?_ | with_reducible refine ownK_drewN ?_ _))); rintro e w' ⟨A3, c3, rfl, hgr⟩; obtain ⟨os4, n4, rfl⟩ := grown_plus (L := (W.alloc (.cells #[.int .i64 0, .int .i64 0, .int .i64 0, .string ⟨#[]⟩, .slice none 0 0] 24))) (by repeat (first | with_reducible exact Below.refl _ _ | with_reducible refine bl_plus ?_ | with_reducible refine bl_alloc ?_ _ | with_reducible refine bl_drew ?_ | with_reducible refine bl_drewN ?_ _)) hgr (fun k hk => HLO.out k ((own_same A1 _ _ _ _).trans hk)); clear hgr))
        refine bodyPost_ret (v := .tuple #[.agg #[.int .i64 2, .int .i64 ((cntZ (stL xs) xs.length : Nat) : Int), .int .i64 0, .string ⟨#[]⟩, .slice none 0 0], .int .i64 0]) (by simp [results, Tryd.results15, go_sem]) rfl ?_
        exact HPO.out none 0 2 ((cntZ (stL xs) xs.length : Nat) : Int) 0 ⟨#[]⟩ [] 0 _ HR.out (lIn_nil _ _ _) (by repeat (first | with_reducible exact Below.refl _ _ | with_reducible refine bl_plus ?_ | with_reducible refine bl_alloc ?_ _ | with_reducible refine bl_drew ?_ | with_reducible refine bl_drewN ?_ _))
      · clear HCF HAT HFI HLO HSL HS
        have HR := hide (foldR_sum xs)
        generalize sumN xs = S at *
        by_cases ho : S < -1000000000 ∨ 1000000000 < S
        · have HR2 := hide (HR.out.trans (if_pos ho))
          have HOU := hide (fun w => outsideP_yes S (-1000000000) 1000000000 w ho)
          clear HR ho
          go_wp2_with (go_at_call 13; refine (HOU.out _).mono ?_; rintro e w' ⟨rfl, rfl⟩)
          refine bodyPost_ret (v := .tuple #[.agg #[.int .i64 0, .int .i64 0, .int .i64 0, .string ⟨#[]⟩, .slice none 0 0], .int .i64 2]) (by simp [results, Tryd.results15, go_sem]) rfl ?_
          exact HPO.out none 0 0 0 0 ⟨#[]⟩ [] 2 _ HR2.out (lIn_nil _ _ _) (by repeat (first | with_reducible exact Below.refl _ _ | with_reducible refine bl_plus ?_ | with_reducible refine bl_alloc ?_ _ | with_reducible refine bl_drew ?_ | with_reducible refine bl_drewN ?_ _))
        · have HR2 := hide (HR.out.trans (if_neg ho))
          have HOU := hide (fun w => outsideP_no S (-1000000000) 1000000000 w (by omega) (by omega))
          clear HR ho
          go_wp2_with (first | (go_at_call 13; refine (HOU.out _).mono ?_; rintro e w' ⟨rfl, rfl⟩) | (go_at_call 53; refine (numberP_any _ _).mono ?_; rintro e w' ⟨rfl, hbl⟩; obtain ⟨os3, n3, rfl⟩ := below_plus hbl; clear hbl))
          refine bodyPost_ret (v := .tuple #[.agg #[.int .i64 2, .int .i64 S, .int .i64 0, .string ⟨#[]⟩, .slice none 0 0], .int .i64 0]) (by simp [results, Tryd.results15, go_sem]) rfl ?_
          exact HPO.out none 0 2 S 0 ⟨#[]⟩ [] 0 _ HR2.out (lIn_nil _ _ _) (by repeat (first | with_reducible exact Below.refl _ _ | with_reducible refine bl_plus ?_ | with_reducible refine bl_alloc ?_ _ | with_reducible refine bl_drew ?_ | with_reducible refine bl_drewN ?_ _))
      · clear HCF HLO
        rcases Nat.eq_zero_or_pos xs.length with hz | hz
        · have HR := hide ((foldR_least xs).trans (if_pos hz))
          have hz' : (xs.length : Int) = 0 := by omega
          clear HFI HSL HS
          rw [hz] at *
          go_wp2
          refine bodyPost_ret (v := .tuple #[.agg #[.int .i64 0, .int .i64 0, .int .i64 0, .string ⟨#[]⟩, .slice none 0 0], .int .i64 0]) (by simp [results, Tryd.results15, go_sem]) rfl ?_
          exact HPO.out none 0 0 0 0 ⟨#[]⟩ [] 0 _ HR.out (lIn_nil _ _ _) (by repeat (first | with_reducible exact Below.refl _ _ | with_reducible refine bl_plus ?_ | with_reducible refine bl_alloc ?_ _ | with_reducible refine bl_drew ?_ | with_reducible refine bl_drewN ?_ _))
        · have HR := hide ((foldR_least xs).trans (if_neg (by omega)))
          have hz0 : 0 < (stL xs).length := by rw [HSL.out]; exact hz
          rw [show (stL xs)[0]! = (stL xs)[0] from getElem!_pos (stL xs) 0 hz0] at HR
          obtain ⟨b, o, rfl, hb, hv⟩ := (VsC.of_own HS.out).2.cells (by omega)
          have c0 := hv (0) hz0 0 (by decide)
          have c1' := hv (0) hz0 1 (by decide)
          have c2 := hv (0) hz0 2 (by decide)
          have c3 := hv (0) hz0 3 (by decide)
          have c4 := hv (0) hz0 4 (by decide)
          have hxf := HFI.out _ (List.getElem_mem hz0)
          have HCV := hide (fun W' hb => copyValue_any (stL xs)[0].1.x hxf (stL xs)[0].1.A (stL xs)[0].1.c W' (HAT.out W' hb (stL xs)[0]))
          unfold CopyOut at HCV
          clear hv HFI HAT HS hxf
          generalize (stL xs)[0] = x at *
          obtain ⟨⟨⟨xk, xi, xt, xs', xl⟩, xA, xc⟩, hx⟩ := x
          simp only [In0.cells, CVal.cells, V.arg, V.k, V.i, V.t, V.s, V.l] at c0 c1' c2 c3 c4 HCV
          simp only [List.getElem?_cons_zero, List.getElem?_cons_succ, Nat.add_zero, Nat.zero_mul] at c0 c1' c2 c3 c4
          clear hz0 HSL
          go_wp2_with (go_at_call 55; refine (HCV.out _ ?hbw).mono ?_; (case hbw => exact (by repeat (first | with_reducible exact Below.refl _ _ | with_reducible refine bl_plus ?_ | with_reducible refine bl_alloc ?_ _ | with_reducible refine bl_drew ?_ | with_reducible refine bl_drewN ?_ _))); rintro e w' ⟨A3, rfl, hA3, hl3, hbl⟩; have HL3 := hide hl3; obtain ⟨os5, n5, rfl⟩ := below_plus hbl; clear hbl hA3 hl3)
          refine bodyPost_ret (v := .tuple #[.agg #[.int .i64 xk, .int .i64 xi, .int .i64 xt, .string xs', .slice A3 xl.length xl.length], .int .i64 0]) (by simp [results, Tryd.results15, go_sem]) rfl ?_
          refine HPO.out A3 xl.length xk xi xt xs' xl 0 _ HR.out ?_ (by repeat (first | with_reducible exact Below.refl _ _ | with_reducible refine bl_plus ?_ | with_reducible refine bl_alloc ?_ _ | with_reducible refine bl_drew ?_ | with_reducible refine bl_drewN ?_ _))
          exact (HL3.out.frame (fun b hb => plus_swap (by simp only [plus_size, World.size_alloc]) (by have := hb.1; simp only [plus_size, World.size_alloc] at this ⊢; omega))).mono (fun b hb => by have h1 := hb.1; have h2 := hb.2; simp only [plus_size, World.size_alloc] at h1 h2 ⊢; omega)
      · clear HCF HLO
        rcases Nat.eq_zero_or_pos xs.length with hz | hz
        · have HR := hide ((foldR_most xs).trans (if_pos hz))
          have hz' : (xs.length : Int) = 0 := by omega
          clear HFI HSL HS
          rw [hz] at *
          go_wp2
          refine bodyPost_ret (v := .tuple #[.agg #[.int .i64 0, .int .i64 0, .int .i64 0, .string ⟨#[]⟩, .slice none 0 0], .int .i64 0]) (by simp [results, Tryd.results15, go_sem]) rfl ?_
          exact HPO.out none 0 0 0 0 ⟨#[]⟩ [] 0 _ HR.out (lIn_nil _ _ _) (by repeat (first | with_reducible exact Below.refl _ _ | with_reducible refine bl_plus ?_ | with_reducible refine bl_alloc ?_ _ | with_reducible refine bl_drew ?_ | with_reducible refine bl_drewN ?_ _))
        · have HR := hide ((foldR_most xs).trans (if_neg (by omega)))
          have hz0 : xs.length - 1 < (stL xs).length := by rw [HSL.out]; omega
          rw [show (stL xs)[xs.length - 1]! = (stL xs)[xs.length - 1] from getElem!_pos (stL xs) (xs.length - 1) hz0] at HR
          obtain ⟨b, o, rfl, hb, hv⟩ := (VsC.of_own HS.out).2.cells (by omega)
          have c0 := hv (xs.length - 1) hz0 0 (by decide)
          have c1' := hv (xs.length - 1) hz0 1 (by decide)
          have c2 := hv (xs.length - 1) hz0 2 (by decide)
          have c3 := hv (xs.length - 1) hz0 3 (by decide)
          have c4 := hv (xs.length - 1) hz0 4 (by decide)
          have hxf := HFI.out _ (List.getElem_mem hz0)
          have HCV := hide (fun W' hb => copyValue_any (stL xs)[xs.length - 1].1.x hxf (stL xs)[xs.length - 1].1.A (stL xs)[xs.length - 1].1.c W' (HAT.out W' hb (stL xs)[xs.length - 1]))
          unfold CopyOut at HCV
          clear hv HFI HAT HS hxf
          generalize (stL xs)[xs.length - 1] = x at *
          obtain ⟨⟨⟨xk, xi, xt, xs', xl⟩, xA, xc⟩, hx⟩ := x
          simp only [In0.cells, CVal.cells, V.arg, V.k, V.i, V.t, V.s, V.l] at c0 c1' c2 c3 c4 HCV
          simp only [List.getElem?_cons_zero, List.getElem?_cons_succ, Nat.add_zero, Nat.zero_mul] at c0 c1' c2 c3 c4
          clear hz0 HSL
          have i1 : IntKind.i64.wrap ((xs.length : Int) - 1) = ((xs.length - 1 : Nat) : Int) := by rw [IntWalk.i64_in _ (by omega)]; omega
          go_wp2_with (go_at_call 55; refine (HCV.out _ ?hbw).mono ?_; (case hbw => exact (by repeat (first | with_reducible exact Below.refl _ _ | with_reducible refine bl_plus ?_ | with_reducible refine bl_alloc ?_ _ | with_reducible refine bl_drew ?_ | with_reducible refine bl_drewN ?_ _))); rintro e w' ⟨A3, rfl, hA3, hl3, hbl⟩; have HL3 := hide hl3; obtain ⟨os5, n5, rfl⟩ := below_plus hbl; clear hbl hA3 hl3)
          refine bodyPost_ret (v := .tuple #[.agg #[.int .i64 xk, .int .i64 xi, .int .i64 xt, .string xs', .slice A3 xl.length xl.length], .int .i64 0]) (by simp [results, Tryd.results15, go_sem]) rfl ?_
          refine HPO.out A3 xl.length xk xi xt xs' xl 0 _ HR.out ?_ (by repeat (first | with_reducible exact Below.refl _ _ | with_reducible refine bl_plus ?_ | with_reducible refine bl_alloc ?_ _ | with_reducible refine bl_drew ?_ | with_reducible refine bl_drewN ?_ _))
          exact (HL3.out.frame (fun b hb => plus_swap (by simp only [plus_size, World.size_alloc]) (by have := hb.1; simp only [plus_size, World.size_alloc] at this ⊢; omega))).mono (fun b hb => by have h1 := hb.1; have h2 := hb.2; simp only [plus_size, World.size_alloc] at h1 h2 ⊢; omega)
      · clear HCF HAT HFI HLO HSL HS
        have HR := hide (foldR_mean xs)
        generalize sumN xs = S at *
        generalize cntN xs = C at *
        by_cases hc0 : C = 0
        · have HR2 := hide (HR.out.trans (if_pos hc0))
          have h5 : ((C : Int) == 0) = true := by simp; omega
          clear HR hc0
          go_wp2
          refine bodyPost_ret (v := .tuple #[.agg #[.int .i64 0, .int .i64 0, .int .i64 0, .string ⟨#[]⟩, .slice none 0 0], .int .i64 0]) (by simp [results, Tryd.results15, go_sem]) rfl ?_
          exact HPO.out none 0 0 0 0 ⟨#[]⟩ [] 0 _ HR2.out (lIn_nil _ _ _) (by repeat (first | with_reducible exact Below.refl _ _ | with_reducible refine bl_plus ?_ | with_reducible refine bl_alloc ?_ _ | with_reducible refine bl_drew ?_ | with_reducible refine bl_drewN ?_ _))
        · have HR2 := hide (HR.out.trans (if_neg hc0))
          have h5 : ((C : Int) == 0) = false := by simp; omega
          have hcp : 0 < (C : Int) := by omega
          obtain ⟨q1, q2⟩ := tdiv_in (M := 10000000000000) (show -10000000000000 ≤ S by omega) (show S ≤ 10000000000000 by omega) hcp
          have HF := hide (tdiv_floor S C hcp)
          have xx : ∀ T : Int, -10000000000000 ≤ T → T ≤ 10000000000000 → IntKind.i64.wrap T = T ∧ IntKind.i64.wrap (T - 1) = T - 1 := fun T t1 t2 => ⟨IntWalk.i64_in _ (by omega), IntWalk.i64_in _ (by omega)⟩
          obtain ⟨x1, x2⟩ := xx _ q1 q2
          clear xx HR
          by_cases hlt : S.tmod C < 0
          · have HF2 := hide ((if_pos hlt).symm.trans HF.out)
            go_wp2_with (go_at_call 53; refine (numberP_any _ _).mono ?_; rintro e w' ⟨rfl, hbl⟩; obtain ⟨os3, n3, rfl⟩ := below_plus hbl; clear hbl)
            refine bodyPost_ret (v := .tuple #[.agg #[.int .i64 2, .int .i64 (S.tdiv C - 1), .int .i64 0, .string ⟨#[]⟩, .slice none 0 0], .int .i64 0]) (by simp [results, Tryd.results15, go_sem]) rfl ?_
            exact HPO.out none 0 2 (S.tdiv C - 1) 0 ⟨#[]⟩ [] 0 _ (by rw [HR2.out, ← HF2.out]; rfl) (lIn_nil _ _ _) (by repeat (first | with_reducible exact Below.refl _ _ | with_reducible refine bl_plus ?_ | with_reducible refine bl_alloc ?_ _ | with_reducible refine bl_drew ?_ | with_reducible refine bl_drewN ?_ _))
          · have HF2 := hide ((if_neg hlt).symm.trans HF.out)
            go_wp2_with (go_at_call 53; refine (numberP_any _ _).mono ?_; rintro e w' ⟨rfl, hbl⟩; obtain ⟨os3, n3, rfl⟩ := below_plus hbl; clear hbl)
            refine bodyPost_ret (v := .tuple #[.agg #[.int .i64 2, .int .i64 (S.tdiv C), .int .i64 0, .string ⟨#[]⟩, .slice none 0 0], .int .i64 0]) (by simp [results, Tryd.results15, go_sem]) rfl ?_
            exact HPO.out none 0 2 (S.tdiv C) 0 ⟨#[]⟩ [] 0 _ (by rw [HR2.out, ← HF2.out]; rfl) (lIn_nil _ _ _) (by repeat (first | with_reducible exact Below.refl _ _ | with_reducible refine bl_plus ?_ | with_reducible refine bl_alloc ?_ _ | with_reducible refine bl_drew ?_ | with_reducible refine bl_drewN ?_ _))

end Go.Proofs.YtfnooipkghfmoaaDoor
/-
  WALK: Fold.
-/
namespace Go.Proofs.YtfnooipkghfmoaaDoor
open Go.RowKit Go.Lib

theorem lAt_nilF (w : World) (A : Option Addr) : LAt w A [] := ⟨by simp [maxLen], fun h => absurd h (by simp)⟩
theorem flat0_snoc {w0 : World} (xs : List (In0 w0)) (q : In0 w0) : flat0 (xs ++ [q]) = flat0 xs ++ q.cells := by
  unfold flat0
  simp
theorem keptZ_mem {w0 : World} {zs : List (In0 w0)} {q : In0 w0} (h : q ∈ keptZ zs) : q ∈ zs := (List.mem_filter.1 h).1

set_option maxHeartbeats 12800000 in
set_option maxRecDepth 100000 in
theorem foldP_any {w : World} (how : Int) (h1 : -9223372036854775808 ≤ how) (h2 : how ≤ 9223372036854775807) (A : Option Addr) (c : Nat) (zs : List (In0 w)) (W : World) (hbw : Below w.heap.size w W) (hA : VsC W A zs) (hfit : ∀ q ∈ zs, q.v.fits) :
    Calls Tryd.prog 5 #[.int .i64 how, .slice A zs.length c] W (FoldOut (foldAll how zs) W) := by
  have HPO := hide (show ∀ (A' : Option Addr) (c' : Nat) (k i t : Int) (s : ByteArray) (l : List V) (r : Int) (w' : World), foldAll how zs = (.mk k i t s l, r) → LAt w' A' l → Below W.heap.size W w' → FoldOut (foldAll how zs) W (.returned (.tuple #[.agg #[.int .i64 k, .int .i64 i, .int .i64 t, .string s, .slice A' l.length c'], .int .i64 r])) w' by
    intro A' c' k i t s l r w' e h1 h2
    rw [e]
    exact ⟨A', c', rfl, h1, h2⟩)
  generalize FoldOut (foldAll how zs) W = PO at *
  by_cases hh : how < 1 ∨ 6 < how
  · have HR := hide (foldAll_how (zs := zs) hh)
    have HO := hide (fun w => outsideP_yes how 1 6 w hh)
    clear hA hfit hbw hh
    go_enter Tryd.func5, Tryd.ntmps5
    go_wp2_with (go_at_call 13; refine (HO.out _).mono ?_; rintro e w' ⟨rfl, rfl⟩)
    refine bodyPost_ret (v := .tuple #[.agg #[.int .i64 0, .int .i64 0, .int .i64 0, .string ⟨#[]⟩, .slice none 0 0], .int .i64 10]) (by simp [results, Tryd.results5, go_sem]) rfl ?_
    exact HPO.out none 0 0 0 0 ⟨#[]⟩ [] 10 _ HR.out (lAt_nilF _ _) (by repeat (first | with_reducible exact Below.refl _ _ | with_reducible refine bl_plus ?_ | with_reducible refine bl_alloc ?_ _ | with_reducible refine bl_drew ?_ | with_reducible refine bl_drewN ?_ _))
  have HO := hide (fun w => outsideP_no how 1 6 w (by omega) (by omega))
  by_cases hl : 5000 < zs.length
  · have HR := hide (foldAll_long hh hl)
    have i1 : (5000 : Int) < (zs.length : Int) := by omega
    have hm := hA.len
    unfold maxLen at hm
    clear hA hfit hbw hh hl
    go_enter Tryd.func5, Tryd.ntmps5
    go_wp2_with (go_at_call 13; refine (HO.out _).mono ?_; rintro e w' ⟨rfl, rfl⟩)
    refine bodyPost_ret (v := .tuple #[.agg #[.int .i64 0, .int .i64 0, .int .i64 0, .string ⟨#[]⟩, .slice none 0 0], .int .i64 4]) (by simp [results, Tryd.results5, go_sem]) rfl ?_
    exact HPO.out none 0 0 0 0 ⟨#[]⟩ [] 4 _ HR.out (lAt_nilF _ _) (by repeat (first | with_reducible exact Below.refl _ _ | with_reducible refine bl_plus ?_ | with_reducible refine bl_alloc ?_ _ | with_reducible refine bl_drew ?_ | with_reducible refine bl_drewN ?_ _))
  have HCK := hide (fun W' (hb : Below W.heap.size W W') (q : In0 w) => checkValue_any q.1.x q.1.A q.1.c W' (q.at_ (W := W') (fun b h => (hb.block b (Nat.lt_of_lt_of_le h hbw.size)).trans (hbw.block b h)) (Nat.le_trans hbw.size hb.size)))
  have HFO := hide (fun (A1 : Option Addr) (c1 : Nat) W' (hb : Below W.heap.size W W') (hV : VsC W' A1 (keptZ zs)) (hnum : NumsIn (keptZ zs)) =>
    fold_any how (by omega) (by omega) A1 c1 (keptZ zs) W' (fun b h => (hb.block b (Nat.lt_of_lt_of_le h hbw.size)).trans (hbw.block b h)) (Nat.le_trans hbw.size hb.size) hV (Nat.le_trans (keptZ_len zs) (by omega)) hnum (fun q hq => hfit q (keptZ_mem hq)))
  unfold FoldNew at HFO
  have HOK := hide (fun h0 => foldAll_ok (zs := zs) hh hl h0)
  have HER := hide (fun k (hk : k < zs.length) h0 hne => foldAll_err (zs := zs) hh hl hk h0 hne)
  generalize foldR how (keptZ zs) = R at *
  obtain ⟨⟨rk, ri, rt, rs, rl⟩, rr⟩ := R
  simp only [V.arg, V.k, V.i, V.t, V.s, V.l] at HFO
  have HA := hide hA
  have i1 : ¬ (5000 : Int) < (zs.length : Int) := by omega
  obtain ⟨iP, hiP, hzP0, hzP1, hzP2⟩ := info_parts info_val
  have HIP := hide (And.intro hiP (And.intro hzP0 (And.intro hzP1 hzP2)))
  clear hiP hzP0 hzP1 hzP2 hA hfit hbw hh h1 h2
  go_enter Tryd.func5, Tryd.ntmps5
  go_wp2_with (go_at_call 13; refine (HO.out _).mono ?_; rintro e w' ⟨rfl, rfl⟩)
  clear HO i1
  go_loopw [6, 19] (fun v i wr => ∃ (k : Nat) (A' : Option Addr) (c' : Nat) (os : Array Obj) (n : Nat), k ≤ zs.length ∧ v = .slice A' (keptZ (zs.take k)).length c' ∧ i = .int .i64 k ∧ Hid (∀ j, j < k → errZ zs j = 0) ∧
    Hid (OwnK 5 24 wr (W.heap.size + 1) (.slice A' (keptZ (zs.take k)).length c') (keptZ (zs.take k)).length (flat0 (keptZ (zs.take k)))) ∧ wr = plus (W.alloc (.cells #[.int .i64 0, .int .i64 0, .int .i64 0, .string ⟨#[]⟩, .slice none 0 0] 24)) os n) (fun _ i _ => zs.length - (intOf i).toNat)
  case atStart => exact ⟨0, none, 0, #[], _, Nat.zero_le _, rfl, rfl, hide (fun j hj => by omega), hide OwnK.empty, plus_nil.symm⟩
  case round =>
    obtain ⟨k, A', c', os, n, hk, rfl, rfl, HK, HS, rfl⟩ := hrel
    by_cases hlt : k < zs.length
    · clear HFO HOK
      obtain ⟨b, o, rfl, hb, hv⟩ := HA.out.cells (by omega)
      have c0 := hv k hlt 0 (by decide)
      have c1 := hv k hlt 1 (by decide)
      have c2 := hv k hlt 2 (by decide)
      have c3 := hv k hlt 3 (by decide)
      have c4 := hv k hlt 4 (by decide)
      have HCV := hide (fun W' hb => HCK.out W' hb zs[k])
      have HE := hide (HER.out k hlt HK.out)
      have HX := hide (fun (h : errZ zs k = 0) j (hj : j < k + 1) => (by
        rcases Nat.lt_or_ge j k with g | g
        · exact HK.out j g
        · obtain rfl : j = k := by omega
          exact h : errZ zs j = 0))
      have hez := errZ_at hlt
      have hkt := keptZ_take hlt
      have hkl : (keptZ (zs.take k)).length ≤ k := Nat.le_trans (keptZ_len _) (by rw [List.length_take]; omega)
      unfold In0.v at hez
      rw [hez] at HE HX
      clear hv HCK HER HK hez
      generalize keptZ (zs.take k) = ks at *
      generalize zs[k] = x at *
      obtain ⟨⟨⟨xk, xi, xt, xs', xl⟩, xA, xc⟩, hx⟩ := x
      have HFL := hide (flat0_snoc ks ⟨⟨⟨xk, xi, xt, xs', xl⟩, xA, xc⟩, hx⟩)
      simp only [isSome, In0.v, In0.cells, CVal.cells, V.arg, V.k, V.i, V.t, V.s, V.l] at c0 c1 c2 c3 c4 HCV HE HX hkt HFL
      simp only [List.getElem?_cons_zero, List.getElem?_cons_succ, Nat.add_zero] at c0 c1 c2 c3 c4
      generalize V.err (.mk xk xi xt xs' xl) = E at *
      by_cases hE : E = 0
      · subst hE
        have HX2 := hide (HX.out rfl)
        clear HE HX
        by_cases hx0 : xk = 0
        · subst hx0
          simp only [bne_self_eq_false, Bool.false_eq_true, if_false] at hkt
          have HKT := hide hkt
          clear hkt HFL
          go_wp2_with (go_at_call 14; refine (HCV.out _ ?hbw).mono ?_; (case hbw => exact (by repeat (first | with_reducible exact Below.refl _ _ | with_reducible refine bl_plus ?_ | with_reducible refine bl_alloc ?_ _ | with_reducible refine bl_drew ?_ | with_reducible refine bl_drewN ?_ _))); rintro e w' ⟨rfl, hbl⟩; obtain ⟨os1, n1, rfl⟩ := below_plus hbl; clear hbl)
          go_roundw
          case rel => exact ⟨k + 1, A', c', _, _, hlt, by rw [HKT.out], by go_num, HX2, hide (by rw [HKT.out]; exact (by repeat (first | with_reducible exact HS.out | with_reducible refine ownK_alloc ?_ _ | with_reducible refine ownK_plus ?_ _ _ | with_reducible refine ownK_drew ?_ | with_reducible refine ownK_drewN ?_ _))), by first | rfl | (simp only [plus_alloc, plus_plus, plus_drewN, plus_drew]; rfl)⟩
          case measure => simp [intOf]; omega
        · have j0 : (xk != 0) = true := by simpa using hx0
          simp only [j0, if_true] at hkt
          have HKT := hide hkt
          have HBIG := hide (show (ks.length + 1) * iP.bytes ≤ 140737488355328 ∧ ks.length + 1 ≤ 140737488355328 by rw [HIP.out.2.2.2]; omega)
          clear hkt hx0
          go_wp2_with (first
            | (go_at_call 14; refine (HCV.out _ ?hbw).mono ?_; (case hbw => exact (by repeat (first | with_reducible exact Below.refl _ _ | with_reducible refine bl_plus ?_ | with_reducible refine bl_alloc ?_ _ | with_reducible refine bl_drew ?_ | with_reducible refine bl_drewN ?_ _))); rintro e w' ⟨rfl, hbl⟩; obtain ⟨os1, n1, rfl⟩ := below_plus hbl; clear hbl)
            | (at_builtin; refine wpList_append_b rfl (.tmp 32) (.tmp 34) rfl rfl Tryd.underlying22 HIP.out.1 HIP.out.2.1 HIP.out.2.2.1 (by decide) rfl (by have := HIP.out.2.2.2; omega) (W.heap.size + 1) ks.length (.slice A' ks.length c') (flat0 ks) [.int .i64 xk, .int .i64 xi, .int .i64 xt, .string xs', .slice xA xl.length xc] _ rfl (by repeat (first | with_reducible exact HS.out | with_reducible refine ownK_alloc ?_ _ | with_reducible refine ownK_plus ?_ _ _ | with_reducible refine ownK_drew ?_ | with_reducible refine ownK_drewN ?_ _)) rfl (by intro u hu; simp only [List.mem_cons, List.not_mem_nil, or_false] at hu; rcases hu with rfl | rfl | rfl | rfl | rfl <;> rfl) rfl (new5_at (by simp only [World.size_alloc, plus_size, World.drew])) HBIG.out (by simp only [World.size_alloc, plus_size, World.drew]; omega) ?_; intro v' w1 hown1 hgr1 hfr1; have HGR := hide hgr1; obtain ⟨A1, c1, rfl, _⟩ := hown1.form; have HN := hide hown1; clear hown1 hgr1 hfr1))
          obtain ⟨os9, n9, hw1⟩ := grown_plus (L := (W.alloc (.cells #[.int .i64 0, .int .i64 0, .int .i64 0, .string ⟨#[]⟩, .slice none 0 0] 24))) (by repeat (first | with_reducible exact Below.refl _ _ | with_reducible refine bl_plus ?_ | with_reducible refine bl_alloc ?_ _ | with_reducible refine bl_drew ?_ | with_reducible refine bl_drewN ?_ _)) HGR.out (fun g hg => by
            have := (HS.out.lt g hg).1
            simp only [World.size_alloc]
            exact this)
          go_roundw
          case rel => exact ⟨k + 1, A1, c1, os9, n9, hlt, by rw [HKT.out, List.length_append]; rfl, by go_num, HX2, hide (by rw [HKT.out, HFL.out, List.length_append]; exact HN.out), hw1⟩
          case measure => simp [intOf]; omega
      · have HR := hide (HE.out hE)
        have j0 : (E != 0) = true := by simpa using hE
        clear HE HX HS hkt HFL
        go_wp2_with (go_at_call 14; refine (HCV.out _ ?hbw).mono ?_; (case hbw => exact (by repeat (first | with_reducible exact Below.refl _ _ | with_reducible refine bl_plus ?_ | with_reducible refine bl_alloc ?_ _ | with_reducible refine bl_drew ?_ | with_reducible refine bl_drewN ?_ _))); rintro e w' ⟨rfl, hbl⟩; obtain ⟨os1, n1, rfl⟩ := below_plus hbl; clear hbl)
        refine bodyPost_ret (v := .tuple #[.agg #[.int .i64 0, .int .i64 0, .int .i64 0, .string ⟨#[]⟩, .slice none 0 0], .int .i64 E]) (by simp [results, Tryd.results5, go_sem]) rfl ?_
        exact HPO.out none 0 0 0 0 ⟨#[]⟩ [] E _ HR.out (lAt_nilF _ _) (by repeat (first | with_reducible exact Below.refl _ _ | with_reducible refine bl_plus ?_ | with_reducible refine bl_alloc ?_ _ | with_reducible refine bl_drew ?_ | with_reducible refine bl_drewN ?_ _))
    · obtain rfl : k = zs.length := by omega
      rw [List.take_length] at HS ⊢
      have HNM := hide (numsIn_of HK.out)
      have HR := hide (HOK.out HK.out)
      obtain ⟨-, hV⟩ := VsC.of_own HS.out
      have HV := hide hV
      clear hV HCK HER HOK HS HK HA hlt
      go_wp2_with (go_at_call 15; refine (HFO.out A' c' _ ?hbw ?hv HNM.out).mono ?_; (case hbw => exact (by repeat (first | with_reducible exact Below.refl _ _ | with_reducible refine bl_plus ?_ | with_reducible refine bl_alloc ?_ _ | with_reducible refine bl_drew ?_ | with_reducible refine bl_drewN ?_ _))); (case hv => exact HV.out.below (by repeat (first | with_reducible exact Below.refl _ _ | with_reducible refine bl_plus ?_ | with_reducible refine bl_alloc ?_ _ | with_reducible refine bl_drew ?_ | with_reducible refine bl_drewN ?_ _))); rintro e w' ⟨A3, c3, rfl, hl3, hbl⟩; have HL3 := hide hl3; obtain ⟨os5, n5, rfl⟩ := below_plus hbl; clear hbl hl3)
      refine bodyPost_ret (v := .tuple #[.agg #[.int .i64 rk, .int .i64 ri, .int .i64 rt, .string rs, .slice A3 rl.length c3], .int .i64 rr]) (by simp [results, Tryd.results5, go_sem]) rfl ?_
      refine HPO.out A3 c3 rk ri rt rs rl rr _ HR.out ?_ (by repeat (first | with_reducible exact Below.refl _ _ | with_reducible refine bl_plus ?_ | with_reducible refine bl_alloc ?_ _ | with_reducible refine bl_drew ?_ | with_reducible refine bl_drewN ?_ _))
      exact ((HL3.out.frame (fun b hb => plus_swap (by simp only [plus_size, World.size_alloc]) (by have := hb.1; simp only [plus_size, World.size_alloc] at this ⊢; omega))).mono (fun b hb => hb.2)).at_ (fun b h => by simp only [plus_size, World.size_alloc] at h ⊢; omega)

end Go.Proofs.YtfnooipkghfmoaaDoor
/-
  WALK: the reference's FoldOf.
-/
namespace Go.Proofs.YtfnooipkghfmoaaDoor
open Go.RowKit Go.Lib

theorem numsIn_take {w0 : World} {zs : List (In0 w0)} {k : Nat} (h : ∀ j, j < k → errZ zs j = 0) : NumsIn (keptZ (zs.take k)) := numsIn_of (fun j hj => by
  rw [List.length_take] at hj
  have h1 : errZ (zs.take k) j = errZ zs j := by
    unfold errZ
    rw [List.getElem?_take_of_lt (by omega)]
  rw [h1]
  exact h j (by omega))

attribute [local go_sem high] run_max_i

set_option maxHeartbeats 12800000 in
set_option maxRecDepth 100000 in
theorem foldR_any {w : World} (how : Int) (h1 : -9223372036854775808 ≤ how) (h2 : how ≤ 9223372036854775807) (A : Option Addr) (c : Nat) (zs : List (In0 w)) (W : World) (hbw : Below w.heap.size w W) (hA : VsC W A zs) :
    Calls Tryd.prog 6 #[.int .i64 how, .slice A zs.length c] W (FoldOut (foldAll how zs) W) := by
  have HPO := hide (show ∀ (A' : Option Addr) (c' : Nat) (k i t : Int) (s : ByteArray) (l : List V) (r : Int) (w' : World), foldAll how zs = (.mk k i t s l, r) → LAt w' A' l → Below W.heap.size W w' → FoldOut (foldAll how zs) W (.returned (.tuple #[.agg #[.int .i64 k, .int .i64 i, .int .i64 t, .string s, .slice A' l.length c'], .int .i64 r])) w' by
    intro A' c' k i t s l r w' e h1 h2
    rw [e]
    exact ⟨A', c', rfl, h1, h2⟩)
  generalize FoldOut (foldAll how zs) W = PO at *
  by_cases hh1 : how < 1
  · have HR := hide (foldAll_how (zs := zs) (.inl hh1))
    clear hA hbw
    go_enter Tryd.func6, Tryd.ntmps6
    go_wp2
    refine bodyPost_ret (v := .tuple #[.agg #[.int .i64 0, .int .i64 0, .int .i64 0, .string ⟨#[]⟩, .slice none 0 0], .int .i64 10]) (by simp [results, Tryd.results6, go_sem]) rfl ?_
    exact HPO.out none 0 0 0 0 ⟨#[]⟩ [] 10 _ HR.out (lAt_nilF _ _) (by repeat (first | with_reducible exact Below.refl _ _ | with_reducible refine bl_plus ?_ | with_reducible refine bl_alloc ?_ _ | with_reducible refine bl_drew ?_ | with_reducible refine bl_drewN ?_ _))
  by_cases hh2 : 6 < how
  · have HR := hide (foldAll_how (zs := zs) (.inr hh2))
    clear hA hbw
    go_enter Tryd.func6, Tryd.ntmps6
    go_wp2
    refine bodyPost_ret (v := .tuple #[.agg #[.int .i64 0, .int .i64 0, .int .i64 0, .string ⟨#[]⟩, .slice none 0 0], .int .i64 10]) (by simp [results, Tryd.results6, go_sem]) rfl ?_
    exact HPO.out none 0 0 0 0 ⟨#[]⟩ [] 10 _ HR.out (lAt_nilF _ _) (by repeat (first | with_reducible exact Below.refl _ _ | with_reducible refine bl_plus ?_ | with_reducible refine bl_alloc ?_ _ | with_reducible refine bl_drew ?_ | with_reducible refine bl_drewN ?_ _))
  have hh : ¬ (how < 1 ∨ 6 < how) := by omega
  by_cases hl : 5000 < zs.length
  · have HR := hide (foldAll_long hh hl)
    have i1 : (5000 : Int) < (zs.length : Int) := by omega
    have hm := hA.len
    unfold maxLen at hm
    clear hA hbw hh hl
    go_enter Tryd.func6, Tryd.ntmps6
    go_wp2
    refine bodyPost_ret (v := .tuple #[.agg #[.int .i64 0, .int .i64 0, .int .i64 0, .string ⟨#[]⟩, .slice none 0 0], .int .i64 4]) (by simp [results, Tryd.results6, go_sem]) rfl ?_
    exact HPO.out none 0 0 0 0 ⟨#[]⟩ [] 4 _ HR.out (lAt_nilF _ _) (by repeat (first | with_reducible exact Below.refl _ _ | with_reducible refine bl_plus ?_ | with_reducible refine bl_alloc ?_ _ | with_reducible refine bl_drew ?_ | with_reducible refine bl_drewN ?_ _))
  have HCK := hide (fun W' (hb : Below W.heap.size W W') (q : In0 w) => valueFault_any q.1.x q.1.A q.1.c W' (q.at_ (W := W') (fun b h => (hb.block b (Nat.lt_of_lt_of_le h hbw.size)).trans (hbw.block b h)) (Nat.le_trans hbw.size hb.size)))
  have HAT := hide (fun W' (hb : Below W.heap.size W W') (q : In0 w) => q.at_ (W := W') (fun b h => (hb.block b (Nat.lt_of_lt_of_le h hbw.size)).trans (hbw.block b h)) (Nat.le_trans hbw.size hb.size))
  have HST := hide (fun (A1 : Option Addr) (c1 : Nat) (xs : List (In0 w)) (hx : xs.length ≤ 5000) W' (hb : Below W.heap.size W W') (ho : OwnK 5 24 W' w.heap.size (.slice A1 xs.length c1) xs.length (flat0 xs)) =>
    sortStable_any (fun x y A B c d w => compareRG x y A B c d w) (fun args w => Go.Proofs.enters_of Tryd.func18 (by kernel_rfl) rfl args w) A1 c1 xs W' (fun b h => (hb.block b (Nat.lt_of_lt_of_le h hbw.size)).trans (hbw.block b h)) (Nat.le_trans hbw.size hb.size) ho (by omega))
  have HCF := hide (fun (A1 : Option Addr) (c1 : Nat) (xs : List (In0 w)) (hx : xs.length ≤ 5000) W' (hb : Below W.heap.size W W') (ho : OwnK 5 24 W' w.heap.size (.slice A1 xs.length c1) xs.length (flat0 (stL xs))) =>
    (compactV_any 21 eqBy_foldOf A1 c1 (stL xs) xs.length (stL_len xs) W' (fun b h => (hb.block b (Nat.lt_of_lt_of_le h hbw.size)).trans (hbw.block b h)) (Nat.le_trans hbw.size hb.size) ho hx : Calls Tryd.prog 20 #[.slice A1 xs.length c1, .func (.func 21) #[] #[]] W' (CompOut (cntZ (stL xs) xs.length) A1 W')))
  have HOK := hide (fun h0 => foldAll_ok (zs := zs) hh hl h0)
  have HER := hide (fun k (hk : k < zs.length) h0 hne => foldAll_err (zs := zs) hh hl hk h0 hne)
  have HA := hide hA
  have HBW := hide hbw.size
  have i1 : ¬ (5000 : Int) < (zs.length : Int) := by omega
  obtain ⟨iP, hiP, hzP0, hzP1, hzP2⟩ := info_parts info_val
  have HIP := hide (And.intro hiP (And.intro hzP0 (And.intro hzP1 hzP2)))
  clear hiP hzP0 hzP1 hzP2 hA hbw hh h1 h2
  go_enter Tryd.func6, Tryd.ntmps6
  go_wp2
  clear i1
  go_loopw [6, 7, 8, 26] (fun v nn ss i wr => ∃ (k : Nat) (A' : Option Addr) (c' : Nat) (os : Array Obj) (n : Nat), k ≤ zs.length ∧ v = .slice A' (keptZ (zs.take k)).length c' ∧ nn = .int .i64 ((cntN (keptZ (zs.take k)) : Nat) : Int) ∧ ss = .int .i64 (sumN (keptZ (zs.take k))) ∧ i = .int .i64 k ∧ Hid (∀ j, j < k → errZ zs j = 0) ∧
    Hid (OwnK 5 24 wr (W.heap.size + 1) (.slice A' (keptZ (zs.take k)).length c') (keptZ (zs.take k)).length (flat0 (keptZ (zs.take k)))) ∧ wr = plus (W.alloc (.cells #[.int .i64 0, .int .i64 0, .int .i64 0, .string ⟨#[]⟩, .slice none 0 0] 24)) os n) (fun _ _ _ i _ => zs.length - (intOf i).toNat)
  case atStart => exact ⟨0, none, 0, #[], _, Nat.zero_le _, rfl, rfl, rfl, rfl, hide (fun j hj => by omega), hide OwnK.empty, plus_nil.symm⟩
  case round =>
    obtain ⟨k, A', c', os, n, hk, rfl, rfl, rfl, rfl, HK, HS, rfl⟩ := hrel
    by_cases hlt : k < zs.length
    · clear HOK HST HCF HAT HBW
      obtain ⟨b, o, rfl, hb, hv⟩ := HA.out.cells (by omega)
      have c0 := hv k hlt 0 (by decide)
      have c1 := hv k hlt 1 (by decide)
      have c2 := hv k hlt 2 (by decide)
      have c3 := hv k hlt 3 (by decide)
      have c4 := hv k hlt 4 (by decide)
      have HCV := hide (fun W' hb => HCK.out W' hb zs[k])
      have HE := hide (HER.out k hlt HK.out)
      have HX := hide (fun (h : errZ zs k = 0) j (hj : j < k + 1) => (by
        rcases Nat.lt_or_ge j k with g | g
        · exact HK.out j g
        · obtain rfl : j = k := by omega
          exact h : errZ zs j = 0))
      have hez := errZ_at hlt
      have hkt := keptZ_take hlt
      have hkl : (keptZ (zs.take k)).length ≤ k := Nat.le_trans (keptZ_len _) (by rw [List.length_take]; omega)
      have hsk := sumN_in (numsIn_take HK.out)
      have hck := cntN_le (keptZ (zs.take k))
      unfold In0.v at hez
      rw [hez] at HE HX
      clear hv HCK HER HK hez
      generalize keptZ (zs.take k) = ks at *
      generalize zs[k] = x at *
      have hsn := sumN_snoc ks x
      have hcn := cntN_snoc ks x
      have hnu := V.num_in (v := x.1.x)
      obtain ⟨⟨⟨xk, xi, xt, xs', xl⟩, xA, xc⟩, hx⟩ := x
      have HFL := hide (flat0_snoc ks ⟨⟨⟨xk, xi, xt, xs', xl⟩, xA, xc⟩, hx⟩)
      simp only [isSome, isNum, In0.v, In0.cells, CVal.cells, V.arg, V.k, V.i, V.t, V.s, V.l] at c0 c1 c2 c3 c4 HCV HE HX hkt HFL hsn hcn hnu
      simp only [List.getElem?_cons_zero, List.getElem?_cons_succ, Nat.add_zero] at c0 c1 c2 c3 c4
      generalize V.err (.mk xk xi xt xs' xl) = E at *
      by_cases hE : E = 0
      · subst hE
        have HX2 := hide (HX.out rfl)
        have hnu2 := hnu rfl
        clear HE HX hnu
        by_cases hx0 : xk = 0
        · subst hx0
          simp only [bne_self_eq_false, Bool.false_eq_true, if_false] at hkt
          have HKT := hide hkt
          have HSN := hide (fun q (h : q = ks) => congrArg sumN h)
          have HCN := hide (fun q (h : q = ks) => congrArg cntN h)
          clear hkt HFL hsn hcn hnu2
          generalize sumN ks = S at *
          generalize cntN ks = C at *
          go_wp2_with (go_at_call 16; refine (HCV.out _ ?hbw).mono ?_; (case hbw => exact (by repeat (first | with_reducible exact Below.refl _ _ | with_reducible refine bl_plus ?_ | with_reducible refine bl_alloc ?_ _ | with_reducible refine bl_drew ?_ | with_reducible refine bl_drewN ?_ _))); rintro e w' ⟨rfl, hbl⟩; obtain ⟨os1, n1, rfl⟩ := below_plus hbl; clear hbl)
          go_roundw
          case rel => exact ⟨k + 1, A', c', _, _, hlt, by rw [HKT.out], by rw [HCN.out _ HKT.out], by rw [HSN.out _ HKT.out], by go_num, HX2, hide (by rw [HKT.out]; exact (by repeat (first | with_reducible exact HS.out | with_reducible refine ownK_alloc ?_ _ | with_reducible refine ownK_plus ?_ _ _ | with_reducible refine ownK_drew ?_ | with_reducible refine ownK_drewN ?_ _))), by first | rfl | (simp only [plus_alloc, plus_plus, plus_drewN, plus_drew]; rfl)⟩
          case measure => simp [intOf]; omega
        · have j0 : (xk != 0) = true := by simpa using hx0
          simp only [j0, if_true] at hkt
          have HKT := hide hkt
          have HBIG := hide (show (ks.length + 1) * iP.bytes ≤ 140737488355328 ∧ ks.length + 1 ≤ 140737488355328 by rw [HIP.out.2.2.2]; omega)
          by_cases hx2 : xk = 2
          · subst hx2
            simp only [beq_self_eq_true, if_true] at hsn hcn
            have hnu3 := hnu2 rfl
            have HSN := hide (fun q (h : q = ks ++ [_]) => (congrArg sumN h).trans hsn)
            have HCN := hide (fun q (h : q = ks ++ [_]) => (congrArg cntN h).trans hcn)
            clear hkt hx0 hnu2 hsn hcn
            generalize sumN ks = S at *
            generalize cntN ks = C at *
            go_wp2_with (first
              | (go_at_call 16; refine (HCV.out _ ?hbw).mono ?_; (case hbw => exact (by repeat (first | with_reducible exact Below.refl _ _ | with_reducible refine bl_plus ?_ | with_reducible refine bl_alloc ?_ _ | with_reducible refine bl_drew ?_ | with_reducible refine bl_drewN ?_ _))); rintro e w' ⟨rfl, hbl⟩; obtain ⟨os1, n1, rfl⟩ := below_plus hbl; clear hbl)
              | (at_builtin; refine wpList_append_b rfl (.tmp 39) (.tmp 41) rfl rfl Tryd.underlying22 HIP.out.1 HIP.out.2.1 HIP.out.2.2.1 (by decide) rfl (by have := HIP.out.2.2.2; omega) (W.heap.size + 1) ks.length (.slice A' ks.length c') (flat0 ks) [.int .i64 2, .int .i64 xi, .int .i64 xt, .string xs', .slice xA xl.length xc] _ rfl (by repeat (first | with_reducible exact HS.out | with_reducible refine ownK_alloc ?_ _ | with_reducible refine ownK_plus ?_ _ _ | with_reducible refine ownK_drew ?_ | with_reducible refine ownK_drewN ?_ _)) rfl (by intro u hu; simp only [List.mem_cons, List.not_mem_nil, or_false] at hu; rcases hu with rfl | rfl | rfl | rfl | rfl <;> rfl) rfl (new5_at (by simp only [World.size_alloc, plus_size, World.drew])) HBIG.out (by simp only [World.size_alloc, plus_size, World.drew]; omega) ?_; intro v' w1 hown1 hgr1 hfr1; have HGR := hide hgr1; obtain ⟨A1, c1, rfl, _⟩ := hown1.form; have HN := hide hown1; have hB := Blk.grown (Blk.alloc (Blk.plus (Blk.new (plus (W.alloc (.cells #[.int .i64 0, .int .i64 0, .int .i64 0, .string ⟨#[]⟩, .slice none 0 0] 24)) os n) 24 #[.int .i64 2, .int .i64 xi, .int .i64 xt, .string xs', .slice xA xl.length xc])) _) hgr1 (fun h => by have := (HS.out.lt _ h.symm).2; omega); have e0 := hB.cell 0; have e1 := hB.cell 1; simp only [plus_size, World.size_alloc] at e0 e1; have E0 : w1.cell? ⟨W.heap.size + 1 + os.size, 0, none⟩ = some (.int .i64 2) := e0; have E1 : w1.cell? ⟨W.heap.size + 1 + os.size, 1, none⟩ = some (.int .i64 xi) := e1; clear hown1 hgr1 hfr1 hB e0 e1))
            obtain ⟨os9, n9, hw1⟩ := grown_plus (L := (W.alloc (.cells #[.int .i64 0, .int .i64 0, .int .i64 0, .string ⟨#[]⟩, .slice none 0 0] 24))) (by repeat (first | with_reducible exact Below.refl _ _ | with_reducible refine bl_plus ?_ | with_reducible refine bl_alloc ?_ _ | with_reducible refine bl_drew ?_ | with_reducible refine bl_drewN ?_ _)) HGR.out (fun g hg => by
              have := (HS.out.lt g hg).1
              simp only [World.size_alloc]
              exact this)
            go_roundw
            case rel => exact ⟨k + 1, A1, c1, os9, n9, hlt, by rw [HKT.out, List.length_append]; rfl, by rw [HCN.out _ HKT.out]; go_num, by rw [HSN.out _ HKT.out], by go_num, HX2, hide (by rw [HKT.out, HFL.out, List.length_append]; exact HN.out), hw1⟩
            case measure => simp [intOf]; omega
          · have j2 : (xk == 2) = false := beq_eq_false_iff_ne.2 hx2
            simp only [j2, Bool.false_eq_true, if_false, Int.add_zero, Nat.add_zero] at hsn hcn
            have HSN := hide (fun q (h : q = ks ++ [_]) => (congrArg sumN h).trans hsn)
            have HCN := hide (fun q (h : q = ks ++ [_]) => (congrArg cntN h).trans hcn)
            clear hkt hx0 hx2 hnu2 hsn hcn
            generalize sumN ks = S at *
            generalize cntN ks = C at *
            go_wp2_with (first
              | (go_at_call 16; refine (HCV.out _ ?hbw).mono ?_; (case hbw => exact (by repeat (first | with_reducible exact Below.refl _ _ | with_reducible refine bl_plus ?_ | with_reducible refine bl_alloc ?_ _ | with_reducible refine bl_drew ?_ | with_reducible refine bl_drewN ?_ _))); rintro e w' ⟨rfl, hbl⟩; obtain ⟨os1, n1, rfl⟩ := below_plus hbl; clear hbl)
              | (at_builtin; refine wpList_append_b rfl (.tmp 39) (.tmp 41) rfl rfl Tryd.underlying22 HIP.out.1 HIP.out.2.1 HIP.out.2.2.1 (by decide) rfl (by have := HIP.out.2.2.2; omega) (W.heap.size + 1) ks.length (.slice A' ks.length c') (flat0 ks) [.int .i64 xk, .int .i64 xi, .int .i64 xt, .string xs', .slice xA xl.length xc] _ rfl (by repeat (first | with_reducible exact HS.out | with_reducible refine ownK_alloc ?_ _ | with_reducible refine ownK_plus ?_ _ _ | with_reducible refine ownK_drew ?_ | with_reducible refine ownK_drewN ?_ _)) rfl (by intro u hu; simp only [List.mem_cons, List.not_mem_nil, or_false] at hu; rcases hu with rfl | rfl | rfl | rfl | rfl <;> rfl) rfl (new5_at (by simp only [World.size_alloc, plus_size, World.drew])) HBIG.out (by simp only [World.size_alloc, plus_size, World.drew]; omega) ?_; intro v' w1 hown1 hgr1 hfr1; have HGR := hide hgr1; obtain ⟨A1, c1, rfl, _⟩ := hown1.form; have HN := hide hown1; have hB := Blk.grown (Blk.alloc (Blk.plus (Blk.new (plus (W.alloc (.cells #[.int .i64 0, .int .i64 0, .int .i64 0, .string ⟨#[]⟩, .slice none 0 0] 24)) os n) 24 #[.int .i64 xk, .int .i64 xi, .int .i64 xt, .string xs', .slice xA xl.length xc])) _) hgr1 (fun h => by have := (HS.out.lt _ h.symm).2; omega); have e0 := hB.cell 0; have e1 := hB.cell 1; simp only [plus_size, World.size_alloc] at e0 e1; have E0 : w1.cell? ⟨W.heap.size + 1 + os.size, 0, none⟩ = some (.int .i64 xk) := e0; have E1 : w1.cell? ⟨W.heap.size + 1 + os.size, 1, none⟩ = some (.int .i64 xi) := e1; clear hown1 hgr1 hfr1 hB e0 e1))
            obtain ⟨os9, n9, hw1⟩ := grown_plus (L := (W.alloc (.cells #[.int .i64 0, .int .i64 0, .int .i64 0, .string ⟨#[]⟩, .slice none 0 0] 24))) (by repeat (first | with_reducible exact Below.refl _ _ | with_reducible refine bl_plus ?_ | with_reducible refine bl_alloc ?_ _ | with_reducible refine bl_drew ?_ | with_reducible refine bl_drewN ?_ _)) HGR.out (fun g hg => by
              have := (HS.out.lt g hg).1
              simp only [World.size_alloc]
              exact this)
            go_roundw
            case rel => exact ⟨k + 1, A1, c1, os9, n9, hlt, by rw [HKT.out, List.length_append]; rfl, by rw [HCN.out _ HKT.out], by rw [HSN.out _ HKT.out], by go_num, HX2, hide (by rw [HKT.out, HFL.out, List.length_append]; exact HN.out), hw1⟩
            case measure => simp [intOf]; omega
      · have HR := hide (HE.out hE)
        have j0 : (E != 0) = true := by simpa using hE
        clear HE HX HS hkt HFL hsn hcn hnu
        go_wp2_with (go_at_call 16; refine (HCV.out _ ?hbw).mono ?_; (case hbw => exact (by repeat (first | with_reducible exact Below.refl _ _ | with_reducible refine bl_plus ?_ | with_reducible refine bl_alloc ?_ _ | with_reducible refine bl_drew ?_ | with_reducible refine bl_drewN ?_ _))); rintro e w' ⟨rfl, hbl⟩; obtain ⟨os1, n1, rfl⟩ := below_plus hbl; clear hbl)
        refine bodyPost_ret (v := .tuple #[.agg #[.int .i64 0, .int .i64 0, .int .i64 0, .string ⟨#[]⟩, .slice none 0 0], .int .i64 E]) (by simp [results, Tryd.results6, go_sem]) rfl ?_
        exact HPO.out none 0 0 0 0 ⟨#[]⟩ [] E _ HR.out (lAt_nilF _ _) (by repeat (first | with_reducible exact Below.refl _ _ | with_reducible refine bl_plus ?_ | with_reducible refine bl_alloc ?_ _ | with_reducible refine bl_drew ?_ | with_reducible refine bl_drewN ?_ _))
    · obtain rfl : k = zs.length := by omega
      rw [List.take_length] at HS ⊢
      have hsk := sumN_in (numsIn_of HK.out)
      have hck := cntN_le (keptZ zs)
      have HR0 := hide (HOK.out HK.out)
      have hkl : (keptZ zs).length ≤ 5000 := Nat.le_trans (keptZ_len zs) (by omega)
      clear HCK HER HOK HK HA hlt hk
      generalize keptZ zs = xs at *
      have hhow : how = 1 ∨ how = 2 ∨ how = 3 ∨ how = 4 ∨ how = 5 ∨ how = 6 := by omega
      have HHW := hide hhow
      clear hhow hh1 hh2 hl
      have HLO := hide (fun k hk => (HS.out.lt k hk).1)
      go_upto_region 21 with (go_at_call 17; refine (HST.out A' c' xs hkl _ ?hbw ?ho).mono ?_; (case hbw => exact (by repeat (first | with_reducible exact Below.refl _ _ | with_reducible refine bl_plus ?_ | with_reducible refine bl_alloc ?_ _ | with_reducible refine bl_drew ?_ | with_reducible refine bl_drewN ?_ _))); (case ho => exact ownK_low (by repeat (first | with_reducible exact HS.out | with_reducible refine ownK_alloc ?_ _ | with_reducible refine ownK_plus ?_ _ _ | with_reducible refine ownK_drew ?_ | with_reducible refine ownK_drewN ?_ _)) (Nat.le_succ_of_le HBW.out)); rintro e w' ⟨rfl, hgr, hown⟩; have HO2 := hide hown; obtain ⟨os2, n2, rfl⟩ := grown_plus (L := (W.alloc (.cells #[.int .i64 0, .int .i64 0, .int .i64 0, .string ⟨#[]⟩, .slice none 0 0] 24))) (by repeat (first | with_reducible exact Below.refl _ _ | with_reducible refine bl_plus ?_ | with_reducible refine bl_alloc ?_ _ | with_reducible refine bl_drew ?_ | with_reducible refine bl_drewN ?_ _)) hgr (fun k hk => by rw [World.size_alloc]; exact HLO.out k hk); clear hgr hown)
      clear HS HST
      have HSL := hide (stL_len xs)
      have HS := HO2
      clear HO2
      rcases HHW.out with rfl | rfl | rfl | rfl | rfl | rfl
      all_goals clear HHW
      · clear HCF HAT HLO HSL HS
        have HR := hide (HR0.out.trans (foldR_count xs))
        go_wp2_with (go_at_call 19; refine (numberR_any _ _).mono ?_; rintro e w' ⟨rfl, hbl⟩; obtain ⟨os3, n3, rfl⟩ := below_plus hbl; clear hbl)
        refine bodyPost_ret (v := .tuple #[.agg #[.int .i64 2, .int .i64 (xs.length : Int), .int .i64 0, .string ⟨#[]⟩, .slice none 0 0], .int .i64 0]) (by simp [results, Tryd.results6, go_sem]) rfl ?_
        exact HPO.out none 0 2 (xs.length : Int) 0 ⟨#[]⟩ [] 0 _ HR.out (lAt_nilF _ _) (by repeat (first | with_reducible exact Below.refl _ _ | with_reducible refine bl_plus ?_ | with_reducible refine bl_alloc ?_ _ | with_reducible refine bl_drew ?_ | with_reducible refine bl_drewN ?_ _))
      · clear HAT HSL
        have HR := hide (HR0.out.trans (foldR_diff xs))
        go_wp2_with (first
          | (go_at_call 19; refine (numberR_any _ _).mono ?_; rintro e w' ⟨rfl, hbl⟩; obtain ⟨os3, n3, rfl⟩ := below_plus hbl; clear hbl)
          | (go_at_call 20; refine (HCF.out A' c' xs hkl _ ?hbw ?ho).mono ?_; (case hbw => exact (by repeat (first | with_reducible exact Below.refl _ _ | with_reducible refine bl_plus ?_ | with_reducible refine bl_alloc ?_ _ | with_reducible refine bl_drew ?_ | with_reducible refine bl_drewN ?_ _))); (case ho => exact (by repeat (first | with_reducible exact HS.out | with_reducible refine ownK_alloc ?_ _ | with_reducible refine ownK_plus ?_ _ _ | with_reducible refine ownK_drew ?_ | with_reducible refine ownK_drewN ?_ _))); rintro e w' ⟨A3, c3, rfl, hgr⟩; obtain ⟨os4, n4, rfl⟩ := grown_plus (L := (W.alloc (.cells #[.int .i64 0, .int .i64 0, .int .i64 0, .string ⟨#[]⟩, .slice none 0 0] 24))) (by repeat (first | with_reducible exact Below.refl _ _ | with_reducible refine bl_plus ?_ | with_reducible refine bl_alloc ?_ _ | with_reducible refine bl_drew ?_ | with_reducible refine bl_drewN ?_ _)) hgr (fun k hk => by rw [World.size_alloc]; exact HLO.out k ((own_same A' _ _ _ _).trans hk)); clear hgr))
        refine bodyPost_ret (v := .tuple #[.agg #[.int .i64 2, .int .i64 ((cntZ (stL xs) xs.length : Nat) : Int), .int .i64 0, .string ⟨#[]⟩, .slice none 0 0], .int .i64 0]) (by simp [results, Tryd.results6, go_sem]) rfl ?_
        exact HPO.out none 0 2 ((cntZ (stL xs) xs.length : Nat) : Int) 0 ⟨#[]⟩ [] 0 _ HR.out (lAt_nilF _ _) (by repeat (first | with_reducible exact Below.refl _ _ | with_reducible refine bl_plus ?_ | with_reducible refine bl_alloc ?_ _ | with_reducible refine bl_drew ?_ | with_reducible refine bl_drewN ?_ _))
      · clear HCF HAT HLO HSL HS
        have HR := hide (HR0.out.trans (foldR_sum xs))
        generalize sumN xs = S at *
        have hneg : IntKind.i64.wrap (-S) = -S := IntWalk.i64_in _ (by omega)
        by_cases ho : S < -1000000000 ∨ 1000000000 < S
        · have HR2 := hide (HR.out.trans (if_pos ho))
          have i1 : (1000000000 : Int) < max S (-S) := by omega
          clear HR HR0 ho
          go_wp2
          refine bodyPost_ret (v := .tuple #[.agg #[.int .i64 0, .int .i64 0, .int .i64 0, .string ⟨#[]⟩, .slice none 0 0], .int .i64 2]) (by simp [results, Tryd.results6, go_sem]) rfl ?_
          exact HPO.out none 0 0 0 0 ⟨#[]⟩ [] 2 _ HR2.out (lAt_nilF _ _) (by repeat (first | with_reducible exact Below.refl _ _ | with_reducible refine bl_plus ?_ | with_reducible refine bl_alloc ?_ _ | with_reducible refine bl_drew ?_ | with_reducible refine bl_drewN ?_ _))
        · have HR2 := hide (HR.out.trans (if_neg ho))
          have i1 : ¬ (1000000000 : Int) < max S (-S) := by omega
          clear HR HR0 ho
          go_wp2_with (go_at_call 19; refine (numberR_any _ _).mono ?_; rintro e w' ⟨rfl, hbl⟩; obtain ⟨os3, n3, rfl⟩ := below_plus hbl; clear hbl)
          refine bodyPost_ret (v := .tuple #[.agg #[.int .i64 2, .int .i64 S, .int .i64 0, .string ⟨#[]⟩, .slice none 0 0], .int .i64 0]) (by simp [results, Tryd.results6, go_sem]) rfl ?_
          exact HPO.out none 0 2 S 0 ⟨#[]⟩ [] 0 _ HR2.out (lAt_nilF _ _) (by repeat (first | with_reducible exact Below.refl _ _ | with_reducible refine bl_plus ?_ | with_reducible refine bl_alloc ?_ _ | with_reducible refine bl_drew ?_ | with_reducible refine bl_drewN ?_ _))
      · clear HCF HLO
        rcases Nat.eq_zero_or_pos xs.length with hz | hz
        · have HR := hide ((HR0.out.trans (foldR_least xs)).trans (if_pos hz))
          have hz' : (xs.length : Int) = 0 := by omega
          clear HSL HS HR0
          rw [hz] at *
          go_wp2
          refine bodyPost_ret (v := .tuple #[.agg #[.int .i64 0, .int .i64 0, .int .i64 0, .string ⟨#[]⟩, .slice none 0 0], .int .i64 0]) (by simp [results, Tryd.results6, go_sem]) rfl ?_
          exact HPO.out none 0 0 0 0 ⟨#[]⟩ [] 0 _ HR.out (lAt_nilF _ _) (by repeat (first | with_reducible exact Below.refl _ _ | with_reducible refine bl_plus ?_ | with_reducible refine bl_alloc ?_ _ | with_reducible refine bl_drew ?_ | with_reducible refine bl_drewN ?_ _))
        · have HR := hide ((HR0.out.trans (foldR_least xs)).trans (if_neg (by omega)))
          have hz0 : 0 < (stL xs).length := by rw [HSL.out]; exact hz
          rw [show (stL xs)[0]! = (stL xs)[0] from getElem!_pos (stL xs) 0 hz0] at HR
          clear HR0
          obtain ⟨b, o, rfl, hb, hv⟩ := (VsC.of_own HS.out).2.cells (by omega)
          have c0 := hv (0) hz0 0 (by decide)
          have c1' := hv (0) hz0 1 (by decide)
          have c2 := hv (0) hz0 2 (by decide)
          have c3 := hv (0) hz0 3 (by decide)
          have c4 := hv (0) hz0 4 (by decide)
          have HXL := hide (fun W' hb => HAT.out W' hb (stL xs)[0])
          clear hv HAT HS
          generalize (stL xs)[0] = x at *
          obtain ⟨⟨⟨xk, xi, xt, xs', xl⟩, xA, xc⟩, hx⟩ := x
          simp only [In0.cells, CVal.cells, V.arg, V.k, V.i, V.t, V.s, V.l] at c0 c1' c2 c3 c4 HXL
          simp only [List.getElem?_cons_zero, List.getElem?_cons_succ, Nat.add_zero, Nat.zero_mul] at c0 c1' c2 c3 c4
          clear hz0 HSL
          go_wp2
          refine bodyPost_ret (v := .tuple #[.agg #[.int .i64 xk, .int .i64 xi, .int .i64 xt, .string xs', .slice xA xl.length xc], .int .i64 0]) (by simp [results, Tryd.results6, go_sem]) rfl ?_
          exact HPO.out xA xc xk xi xt xs' xl 0 _ HR.out (HXL.out _ (by repeat (first | with_reducible exact Below.refl _ _ | with_reducible refine bl_plus ?_ | with_reducible refine bl_alloc ?_ _ | with_reducible refine bl_drew ?_ | with_reducible refine bl_drewN ?_ _))) (by repeat (first | with_reducible exact Below.refl _ _ | with_reducible refine bl_plus ?_ | with_reducible refine bl_alloc ?_ _ | with_reducible refine bl_drew ?_ | with_reducible refine bl_drewN ?_ _))
      · clear HCF HLO
        rcases Nat.eq_zero_or_pos xs.length with hz | hz
        · have HR := hide ((HR0.out.trans (foldR_most xs)).trans (if_pos hz))
          have hz' : (xs.length : Int) = 0 := by omega
          clear HSL HS HR0
          rw [hz] at *
          go_wp2
          refine bodyPost_ret (v := .tuple #[.agg #[.int .i64 0, .int .i64 0, .int .i64 0, .string ⟨#[]⟩, .slice none 0 0], .int .i64 0]) (by simp [results, Tryd.results6, go_sem]) rfl ?_
          exact HPO.out none 0 0 0 0 ⟨#[]⟩ [] 0 _ HR.out (lAt_nilF _ _) (by repeat (first | with_reducible exact Below.refl _ _ | with_reducible refine bl_plus ?_ | with_reducible refine bl_alloc ?_ _ | with_reducible refine bl_drew ?_ | with_reducible refine bl_drewN ?_ _))
        · have HR := hide ((HR0.out.trans (foldR_most xs)).trans (if_neg (by omega)))
          have hz0 : xs.length - 1 < (stL xs).length := by rw [HSL.out]; omega
          rw [show (stL xs)[xs.length - 1]! = (stL xs)[xs.length - 1] from getElem!_pos (stL xs) (xs.length - 1) hz0] at HR
          clear HR0
          obtain ⟨b, o, rfl, hb, hv⟩ := (VsC.of_own HS.out).2.cells (by omega)
          have c0 := hv (xs.length - 1) hz0 0 (by decide)
          have c1' := hv (xs.length - 1) hz0 1 (by decide)
          have c2 := hv (xs.length - 1) hz0 2 (by decide)
          have c3 := hv (xs.length - 1) hz0 3 (by decide)
          have c4 := hv (xs.length - 1) hz0 4 (by decide)
          have HXL := hide (fun W' hb => HAT.out W' hb (stL xs)[xs.length - 1])
          clear hv HAT HS
          generalize (stL xs)[xs.length - 1] = x at *
          obtain ⟨⟨⟨xk, xi, xt, xs', xl⟩, xA, xc⟩, hx⟩ := x
          simp only [In0.cells, CVal.cells, V.arg, V.k, V.i, V.t, V.s, V.l] at c0 c1' c2 c3 c4 HXL
          simp only [List.getElem?_cons_zero, List.getElem?_cons_succ, Nat.add_zero, Nat.zero_mul] at c0 c1' c2 c3 c4
          clear hz0 HSL
          have i1 : IntKind.i64.wrap ((xs.length : Int) - 1) = ((xs.length - 1 : Nat) : Int) := by rw [IntWalk.i64_in _ (by omega)]; omega
          go_wp2
          refine bodyPost_ret (v := .tuple #[.agg #[.int .i64 xk, .int .i64 xi, .int .i64 xt, .string xs', .slice xA xl.length xc], .int .i64 0]) (by simp [results, Tryd.results6, go_sem]) rfl ?_
          exact HPO.out xA xc xk xi xt xs' xl 0 _ HR.out (HXL.out _ (by repeat (first | with_reducible exact Below.refl _ _ | with_reducible refine bl_plus ?_ | with_reducible refine bl_alloc ?_ _ | with_reducible refine bl_drew ?_ | with_reducible refine bl_drewN ?_ _))) (by repeat (first | with_reducible exact Below.refl _ _ | with_reducible refine bl_plus ?_ | with_reducible refine bl_alloc ?_ _ | with_reducible refine bl_drew ?_ | with_reducible refine bl_drewN ?_ _))
      · clear HCF HAT HLO HSL HS
        have HR := hide (HR0.out.trans (foldR_mean xs))
        generalize sumN xs = S at *
        generalize cntN xs = C at *
        clear HR0
        by_cases hc0 : C = 0
        · have HR2 := hide (HR.out.trans (if_pos hc0))
          have h5 : ((C : Int) == 0) = true := by simp; omega
          clear HR hc0
          go_wp2
          refine bodyPost_ret (v := .tuple #[.agg #[.int .i64 0, .int .i64 0, .int .i64 0, .string ⟨#[]⟩, .slice none 0 0], .int .i64 0]) (by simp [results, Tryd.results6, go_sem]) rfl ?_
          exact HPO.out none 0 0 0 0 ⟨#[]⟩ [] 0 _ HR2.out (lAt_nilF _ _) (by repeat (first | with_reducible exact Below.refl _ _ | with_reducible refine bl_plus ?_ | with_reducible refine bl_alloc ?_ _ | with_reducible refine bl_drew ?_ | with_reducible refine bl_drewN ?_ _))
        · have HR2 := hide (HR.out.trans (if_neg hc0))
          have h5 : ((C : Int) == 0) = false := by simp; omega
          have HFLO := hide (fun w => floor_wide S C w (by omega) (by omega) (by omega) (by omega))
          clear HR hc0
          go_wp2_with (first | (go_at_call 19; refine (numberR_any _ _).mono ?_; rintro e w' ⟨rfl, hbl⟩; obtain ⟨os3, n3, rfl⟩ := below_plus hbl; clear hbl) | (go_at_call 22; refine (HFLO.out _).mono ?_; rintro e w' ⟨rfl, rfl⟩))
          refine bodyPost_ret (v := .tuple #[.agg #[.int .i64 2, .int .i64 (S / C), .int .i64 0, .string ⟨#[]⟩, .slice none 0 0], .int .i64 0]) (by simp [results, Tryd.results6, go_sem]) rfl ?_
          exact HPO.out none 0 2 (S / C) 0 ⟨#[]⟩ [] 0 _ HR2.out (lAt_nilF _ _) (by repeat (first | with_reducible exact Below.refl _ _ | with_reducible refine bl_plus ?_ | with_reducible refine bl_alloc ?_ _ | with_reducible refine bl_drew ?_ | with_reducible refine bl_drewN ?_ _))

end Go.Proofs.YtfnooipkghfmoaaDoor
