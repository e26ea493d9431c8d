/-
  WALKS: slices.symMergeCmpFunc at ints, of some elements and one.
-/
import Derived.Test.YtokghdcfbbogdaaStabA
namespace Go.Proofs.Ytokghdcfbbogdaa
open Go.RowKit Go.Shelf Go.Lib Go.Sort
variable {α : Type} [Inhabited α] {zf : α → Int}

set_option maxHeartbeats 8000000 in
set_option maxRecDepth 1000000 in
/-- The last element is led to its place. -/
theorem symMerge_last (g : Nat) (cb : Array Value) (cf : α → α → Int) (blk off cap N : Nat) (d0 : Array α) (w0 : World) (eg : ∀ args w, (callFunc g args).run Try.prog w = .ok (.enter g args) w) (hcmp : CmpLays1 Try.prog g cb (encV zf) cf blk off N w0) (R : Row1 (encV zf) w0 blk off d0) (hs : d0.size = N) (hsz : N < 4611686018427387904)
    (f a m b : Nat) (d : Array α) (w : World) (hN : d.size = N) (S : SW (encV zf) w0 blk off d w) (h1 : a < m) (h2 : m < b) (h3 : b ≤ N) (e1 : ¬ m - a = 1) (e2 : b - m = 1) :
    Calls Try.prog 111 #[.slice (some ⟨blk, off, none⟩) N cap, .int .i64 a, .int .i64 m, .int .i64 b, .func (.func g) #[] cb] w fun e w' => e = .returned (.tuple #[]) ∧ SW (encV zf) w0 blk off (symM (ltOf cf) (f + 1) a m b d) w' := by
  rw [symM_last _ e1 e2]
  have mixed : Try.prog.follows .mixedOrders = true := by kernel_rfl
  have HC : Aside _ := hcmp
  have S0 : Aside (SW (encV zf) w0 blk off d w) := S
  clear S hcmp
  have t1 : ((m : Int) - (a : Int) == 1) = false := by simp; omega
  have t2 : ((b : Int) - (m : Int) == 1) = true := by simp; omega
  go_enter Try.func111, Try.ntmps111
  go_wp2
  go_loopg [14, 15] b (fun g1 vi vj wr => ∃ (i j : Nat), vi = .int .i64 i ∧ vj = .int .i64 j ∧ a ≤ i ∧ i ≤ j ∧ j ≤ m ∧ j - i ≤ g1 ∧ Aside (SW (encV zf) w0 blk off d wr) ∧ Hid (half (fun h => !ltOf cf d[m]! d[h]!) i j = half (fun h => !ltOf cf d[m]! d[h]!) a m))
  case atStart => exact ⟨a, m, rfl, rfl, Nat.le_refl _, by omega, Nat.le_refl _, by omega, S0, rfl⟩
  case round =>
    clear S0
    obtain ⟨i, j, rfl, rfl, hmi, hij, hjb, hg1, S1, HO⟩ := hrel
    by_cases hlt : i < j
    · have hltz : (i : Int) < (j : Int) := by omega
      cases hlv : ltOf cf d[m]! d[(i + j) / 2]! with
      | false =>
        have HO2 : Hid (half (fun h => !ltOf cf d[m]! d[h]!) ((i + j) / 2 + 1) j = half (fun h => !ltOf cf d[m]! d[h]!) a m) := by show _ = _; rw [← HO.out, half_yes (i := i) (j := j) hlt (by rw [hlv]; rfl)]
        clear HO
        obtain ⟨iN1, hiN1⟩ : ∃ qq, qq = m := ⟨_, rfl⟩
        obtain ⟨jN1, hjN1⟩ : ∃ qq, qq = (i + j) / 2 := ⟨_, rfl⟩
        have ea1 : ((m : Int)).toNat = iN1 := by omega
        have pa1 : (0 : Int) ≤ (m : Int) := by omega
        have ba1 : (m : Int) < (N : Int) := by omega
        have ra1 : IntKind.i64.wrap ((m : Int)) = (m : Int) := by rw [IntKind.wrap_i64]; omega
        have ec1 : (((i : Int) + (j : Int)) / 2).toNat = jN1 := by omega
        have pc1 : (0 : Int) ≤ ((i : Int) + (j : Int)) / 2 := by omega
        have bc1 : ((i : Int) + (j : Int)) / 2 < (N : Int) := by omega
        have rc1 : IntKind.i64.wrap (((i : Int) + (j : Int)) / 2) = ((i : Int) + (j : Int)) / 2 := by rw [IntKind.wrap_i64]; omega
        obtain ⟨x1, hx1⟩ : ∃ x, x = d[m]! := ⟨_, rfl⟩
        obtain ⟨y1, hy1⟩ : ∃ x, x = d[(i + j) / 2]! := ⟨_, rfl⟩
        have l1a := S1.out.cl R (by omega) (m) (by omega)
        have l1b := S1.out.cl R (by omega) ((i + j) / 2) (by omega)
        rw [← hx1, ← hiN1] at l1a
        rw [← hy1, ← hjN1] at l1b
        have hc1 := S1.out.cmp HC.out (by omega) x1 y1
        have hv1 : ¬ cf x1 y1 < 0 := by rw [hx1, hy1]; exact of_decide_eq_false hlv
        have hd1 : decide (cf x1 y1 < 0) = false := decide_eq_false hv1
        clear hx1 hy1 hiN1 hjN1
        go_wp2_with fail
        go_quiet_grown (first | (go_at_fn g; refine Calls.grown_of (hc1 _ _)))
        have S2 : Aside (SW (encV zf) w0 blk off d (grow (wr.drewN nq) osq)) := S1.out.grown nq osq
        clear l1a l1b hc1 S1
        generalize grow (wr.drewN nq) osq = w2 at S2 ⊢
        clear nq osq
        clear ea1 ec1
        go_wp2
        go_roundg (j - ((i + j) / 2 + 1))
        case measure => omega
        case rel => exact ⟨(i + j) / 2 + 1, j, by go_num, rfl, by omega, by omega, hjb, Nat.le_refl _, S2, HO2⟩
      | true =>
        have HO2 : Hid (half (fun h => !ltOf cf d[m]! d[h]!) i ((i + j) / 2) = half (fun h => !ltOf cf d[m]! d[h]!) a m) := by show _ = _; rw [← HO.out, half_no (i := i) (j := j) hlt (by rw [hlv]; rfl)]
        clear HO
        obtain ⟨iN2, hiN2⟩ : ∃ qq, qq = m := ⟨_, rfl⟩
        obtain ⟨jN2, hjN2⟩ : ∃ qq, qq = (i + j) / 2 := ⟨_, rfl⟩
        have ea2 : ((m : Int)).toNat = iN2 := by omega
        have pa2 : (0 : Int) ≤ (m : Int) := by omega
        have ba2 : (m : Int) < (N : Int) := by omega
        have ra2 : IntKind.i64.wrap ((m : Int)) = (m : Int) := by rw [IntKind.wrap_i64]; omega
        have ec2 : (((i : Int) + (j : Int)) / 2).toNat = jN2 := by omega
        have pc2 : (0 : Int) ≤ ((i : Int) + (j : Int)) / 2 := by omega
        have bc2 : ((i : Int) + (j : Int)) / 2 < (N : Int) := by omega
        have rc2 : IntKind.i64.wrap (((i : Int) + (j : Int)) / 2) = ((i : Int) + (j : Int)) / 2 := by rw [IntKind.wrap_i64]; omega
        obtain ⟨x2, hx2⟩ : ∃ x, x = d[m]! := ⟨_, rfl⟩
        obtain ⟨y2, hy2⟩ : ∃ x, x = d[(i + j) / 2]! := ⟨_, rfl⟩
        have l2a := S1.out.cl R (by omega) (m) (by omega)
        have l2b := S1.out.cl R (by omega) ((i + j) / 2) (by omega)
        rw [← hx2, ← hiN2] at l2a
        rw [← hy2, ← hjN2] at l2b
        have hc2 := S1.out.cmp HC.out (by omega) x2 y2
        have hv2 : cf x2 y2 < 0 := by rw [hx2, hy2]; exact of_decide_eq_true hlv
        have hd2 : decide (cf x2 y2 < 0) = true := decide_eq_true hv2
        clear hx2 hy2 hiN2 hjN2
        go_wp2_with fail
        go_quiet_grown (first | (go_at_fn g; refine Calls.grown_of (hc2 _ _)))
        have S2 : Aside (SW (encV zf) w0 blk off d (grow (wr.drewN nq) osq)) := S1.out.grown nq osq
        clear l2a l2b hc2 S1
        generalize grow (wr.drewN nq) osq = w2 at S2 ⊢
        clear nq osq
        clear ea2 ec2
        go_wp2
        go_roundg ((i + j) / 2 - i)
        case measure => omega
        case rel => exact ⟨i, (i + j) / 2, rfl, by go_num, hmi, by omega, by omega, Nat.le_refl _, S2, HO2⟩
    · have hltz : ¬ (i : Int) < (j : Int) := by omega
      have HI : Hid (i = half (fun h => !ltOf cf d[m]! d[h]!) a m) := by show _ = _; rw [← HO.out, half_stop hlt]
      clear HO
      go_wp2
      go_loopg [17] m (fun g2 vk wr2 => ∃ (k : Nat) (dk : Array α), vk = .int .i64 k ∧ k ≤ m ∧ k ≤ g2 ∧ dk.size = N ∧ Aside (SW (encV zf) w0 blk off dk wr2) ∧ Hid (downGo i k dk = downGo i m d))
      case atStart => exact ⟨m, d, rfl, Nat.le_refl _, Nat.le_refl _, hN, S1, rfl⟩
      case round =>
        clear S1
        obtain ⟨k, dk, rfl, hak, hg2, hsk, S1, HU⟩ := hrel
        by_cases hk : i < k
        · have hkz : (i : Int) < (k : Int) := by omega
          obtain ⟨kp, hkp⟩ : ∃ q, q + 1 = k := ⟨k - 1, by omega⟩
          have zkp : (k : Int) = (kp : Int) + 1 := by omega
          have hkz2 : (i : Int) < (kp : Int) + 1 := by omega
          go_wp2_with fail
          obtain ⟨iN3, hiN3⟩ : ∃ qq, qq = k := ⟨_, rfl⟩
          obtain ⟨jN3, hjN3⟩ : ∃ qq, qq = k - 1 := ⟨_, rfl⟩
          have ea3 : ((kp : Int) + 1).toNat = iN3 := by omega
          have pa3 : (0 : Int) ≤ (kp : Int) + 1 := by omega
          have ba3 : (kp : Int) + 1 < (N : Int) := by omega
          have ra3 : IntKind.i64.wrap ((kp : Int) + 1) = (kp : Int) + 1 := by rw [IntKind.wrap_i64]; omega
          have ec3 : ((kp : Int)).toNat = jN3 := by omega
          have pc3 : (0 : Int) ≤ (kp : Int) := by omega
          have bc3 : (kp : Int) < (N : Int) := by omega
          have rc3 : IntKind.i64.wrap ((kp : Int)) = (kp : Int) := by rw [IntKind.wrap_i64]; omega
          obtain ⟨x3, hx3⟩ : ∃ x, x = dk[k]! := ⟨_, rfl⟩
          obtain ⟨y3, hy3⟩ : ∃ x, x = dk[k - 1]! := ⟨_, rfl⟩
          have S2 : Aside (SW (encV zf) w0 blk off (swp dk (k) (k - 1)) ((wr.setCell ⟨blk, off + iN3, none⟩ ((encV zf) y3)).setCell ⟨blk, off + jN3, none⟩ ((encV zf) x3)).drew) := by rw [hiN3, hjN3, hx3, hy3]; exact S1.out.swapped R (k) (k - 1) (by omega) (by omega)
          have c3a := S1.out.c1 R (by omega) (k) (by omega)
          have c3b := S1.out.c1 R (by omega) (k - 1) (by omega)
          have f3a := S1.out.f1 R (by omega) (k) (by omega)
          have f3b := S1.out.f1 R (by omega) (k - 1) (by omega)
          obtain ⟨u3, c3c⟩ := S1.out.c2 R (by omega) (k) (k - 1) (by omega) (by omega) ((encV zf) y3)
          rw [← hjN3, ← hiN3] at c3c
          rw [← hx3, ← hiN3] at c3a
          rw [← hy3, ← hjN3] at c3b
          rw [← hiN3] at f3a
          rw [← hjN3] at f3b
          clear S1 hx3 hy3 hiN3 hjN3
          go_wp2_with fail
          go_big_region_o
          clear c3a c3b c3c f3a f3b
          generalize ((wr.setCell ⟨blk, off + iN3, none⟩ ((encV zf) y3)).setCell ⟨blk, off + jN3, none⟩ ((encV zf) x3)).drew = w3 at S2 ⊢
          clear ea3 ec3
          go_wp2
          go_roundg (k - 1)
          case measure => omega
          case rel => exact ⟨k - 1, swp dk k (k - 1), by first | rfl | go_num | (congr 1; omega), by omega, Nat.le_refl _, by rw [size_swp]; exact hsk, S2, (show Hid _ from by rw [← HU.out, downGo_go (k := k) hk]; exact rfl)⟩
        · have hkz : ¬ (i : Int) < (k : Int) := by omega
          go_wp2
          go_returns
          exact ⟨rfl, by rw [← HI.out, ← HU.out, downGo_stop hk]; exact S1.out⟩

end Go.Proofs.Ytokghdcfbbogdaa
