/-
  WALK: a list of properties as text, in the reference.
-/
import Derived.Test.YtjaoiehjhnmahaaGreatDoorPca
set_option linter.all false
namespace Go.Proofs.YtjaoiehjhnmahaaGreatDoor
open Go.RowKit Go.Lib Cal

set_option maxHeartbeats 3200000 in
set_option maxRecDepth 100000 in
theorem propsString_good (l : List PR) (A : Option Addr) (c : Nat) (w : World) (hp : PowTab w) (hA : PsAt w A l) (he : propsErr l = 0) :
    Calls Tryz.prog 7 #[.slice A l.length c] w fun e w' => e = .returned (.tuple #[.string (propsTxt l), .int .i64 0]) ∧ Below w.heap.size w w' := by
  have HC := hide (fun W (hb : Below w.heap.size w W) => propsFault_any l A c W (hA.below hb))
  rw [he] at HC
  have HG := hide (props_good he)
  have HTL := hide (propsTake_le he)
  have HP := hide hp
  have HA := hide hA
  have hl' : (l.length : Int) ≤ 20 := by have := HG.out.1; omega
  clear hp hA he
  go_enter Tryz.func7, Tryz.ntmps7
  go_wp2_with (first | (go_at_call 10; with_reducible refine (HC.out _ ?hb).mono ?_; (case hb => exact (by repeat (first | exact Below.refl _ _ | with_reducible refine bl_plus ?_ | with_reducible refine bl_alloc ?_ _ | with_reducible refine bl_drew ?_ | with_reducible refine bl_drewN ?_ _))); rintro e w' ⟨rfl, hbl⟩; obtain ⟨os1, n1, rfl⟩ := below_plus hbl; clear hbl))
  have hbw : Below w.heap.size w (plus w os1 n1) := bl_plus (Below.refl _ _)
  have HBW := hide hbw
  clear hbw
  generalize plus w os1 n1 = W at *
  go_loopw [5, 15] (fun v i wr => ∃ k : Nat, k ≤ l.length ∧ i = .int .i64 k ∧ v = .string (propsTxt (l.take k)) ∧ Hid (Below w.heap.size w wr)) (fun _ i _ => l.length - (intOf i).toNat)
  case atStart => exact ⟨0, Nat.zero_le _, rfl, rfl, HBW⟩
  case round =>
    clear HBW
    obtain ⟨k, hk, rfl, rfl, HBLW⟩ := hrel
    by_cases hlt : k < l.length
    · have hAw := HA.out.below HBLW.out
      obtain ⟨b, o, rfl, hb, hv⟩ := hAw.2 (by omega)
      obtain ⟨c0, _, c1, c2, c3, c4, A2, e2, c5, hL2⟩ := (hv k hlt).cells
      have hgk := HG.out.2 k hlt
      have hLine := PR.line_le hgk.1 hgk.2
      have hTx := V.txt_le hgk.2
      have HN := hide (propsTxt_next hlt)
      have hT := HTL.out k
      have HS := hide (fun W2 (hb : Below wr.heap.size wr W2) => valueString_any l[k].v A2 e2 W2 (powTab_below HP.out (HBLW.out.trans (Below.mono hb HBLW.out.size))) (hL2.below hb) hgk.2)
      have HLI := hide (show l[k].line = ((l[k].n ++ (⟨#[58, 58, 32]⟩ : ByteArray)) ++ l[k].v.txt) ++ (⟨#[10]⟩ : ByteArray) from rfl)
      have hn := hgk.1
      clear hv hL2 hAw hgk
      generalize propsTxt (l.take k) = S at *
      generalize l[k].line = LN at *
      generalize l[k].v.txt = T at *
      generalize l[k].n = N at *
      generalize l[k].v = x at *
      obtain ⟨xk, xi, xt, xs, xl⟩ := x
      simp only [V.arg, V.k, V.i, V.t, V.s, V.l] at *
      have z1 : (N.size : Int) ≤ 20 := by omega
      have z2 : (T.size : Int) ≤ 200000 := by omega
      have z3 : (S.size : Int) ≤ 4002000 := by omega
      clear hT hLine hTx hn
      go_wp2_with fail
      go_region_with (go_at_call 22; with_reducible refine (HS.out _ ?hb).mono ?_; (case hb => exact (by repeat (first | exact Below.refl _ _ | with_reducible refine bl_plus ?_ | with_reducible refine bl_alloc ?_ _ | with_reducible refine bl_drew ?_ | with_reducible refine bl_drewN ?_ _))); rintro e w' ⟨rfl, hbl⟩; obtain ⟨os2, n2, rfl⟩ := below_plus hbl; clear hbl)
      all_goals
        go_wp2
        go_roundw
        case rel => exact ⟨k + 1, hlt, by go_num, by rw [HN.out, HLI.out], hide (HBLW.out.trans (Below.mono (by repeat (first | exact Below.refl _ _ | with_reducible refine bl_plus ?_ | with_reducible refine bl_alloc ?_ _ | with_reducible refine bl_drew ?_ | with_reducible refine bl_drewN ?_ _)) HBLW.out.size))⟩
        case measure => simp [intOf]; omega
    · obtain rfl : k = l.length := by omega
      rw [List.take_length]
      go_wp2
      go_ret2
      exact ⟨rfl, HBLW.out⟩

set_option maxHeartbeats 3200000 in
set_option maxRecDepth 100000 in
theorem propsString_any (l : List PR) (A : Option Addr) (c : Nat) (w : World) (hp : PowTab w) (hA : PsAt w A l) :
    Calls Tryz.prog 7 #[.slice A l.length c] w fun e w' => e = .returned (.tuple #[.string (propsOut l), .int .i64 (propsErr l)]) ∧ Below w.heap.size w w' := by
  unfold propsOut
  by_cases he : propsErr l = 0
  · rw [if_pos he, he]
    exact propsString_good l A c w hp hA he
  · rw [if_neg he]
    have HC := hide (fun W (hb : Below w.heap.size w W) => propsFault_any l A c W (hA.below hb))
    have he2 : (propsErr l != 0) = true := bne_iff_ne.2 he
    generalize propsErr l = E at *
    clear hA hp
    go_enter Tryz.func7, Tryz.ntmps7
    go_wp2_with (first | (go_at_call 10; with_reducible refine (HC.out _ ?hb).mono ?_; (case hb => exact (by repeat (first | exact Below.refl _ _ | with_reducible refine bl_plus ?_ | with_reducible refine bl_alloc ?_ _ | with_reducible refine bl_drew ?_ | with_reducible refine bl_drewN ?_ _))); rintro e w' ⟨rfl, hbl⟩; obtain ⟨os1, n1, rfl⟩ := below_plus hbl; clear hbl))
    go_ret2
    exact ⟨rfl, (by repeat (first | exact Below.refl _ _ | with_reducible refine bl_plus ?_ | with_reducible refine bl_alloc ?_ _ | with_reducible refine bl_drew ?_ | with_reducible refine bl_drewN ?_ _))⟩

end Go.Proofs.YtjaoiehjhnmahaaGreatDoor
