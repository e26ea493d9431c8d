/-
  WALKS: slices.swapRangeCmpFunc and slices.rotateCmpFunc at ints.
-/
import Derived.Test.YtokghdcfbbogdaaStab
import Derived.Test.YtokghdcfbbogdaaAppend
import Derived.Shelf.SlSortCmp.Insertion1
namespace Go.Proofs.Ytokghdcfbbogdaa
open Go.RowKit Go.Shelf Go.Lib Go.Sort

/-- How what stands for a number lies in a row. -/
abbrev encV {α : Type} (zf : α → Int) (x : α) : Value := .int .i64 (zf x)
theorem one_int {α : Type} (zf : α → Int) : OneCell (encV zf) := fun _ => rfl
variable {α : Type} [Inhabited α] {zf : α → Int}

set_option maxHeartbeats 4000000 in
set_option maxRecDepth 1000000 in
theorem swapRange_s (g : Nat) (cb : Array Value) (blk off cap a b n : Nat) (d0 d : Array α) (w0 w : World)
    (R : Row1 (encV zf) w0 blk off d0) (hs : d0.size = d.size) (S : SW (encV zf) w0 blk off d w) (ha : a + n ≤ d.size) (hb : b + n ≤ d.size) (hsz : d.size < 4611686018427387904) :
    Calls Try.prog 119 #[.slice (some ⟨blk, off, none⟩) d.size cap, .int .i64 a, .int .i64 b, .int .i64 n, .func (.func g) #[] cb] w fun e w' => e = .returned (.tuple #[]) ∧ SW (encV zf) w0 blk off (swRange a b n 0 d) w' := by
  have mixed : Try.prog.follows .mixedOrders = true := by kernel_rfl
  have S0 : Aside (SW (encV zf) w0 blk off d w) := S
  clear S
  go_enter Try.func119, Try.ntmps119
  go_wp2
  go_loopg [10] n (fun g1 vi wr => ∃ (i : Nat) (dk : Array α), vi = .int .i64 i ∧ n - i ≤ g1 ∧ dk.size = d.size ∧ Aside (SW (encV zf) w0 blk off dk wr) ∧ Hid (swRange a b n i dk = swRange a b n 0 d))
  case atStart => exact ⟨0, d, rfl, by omega, rfl, S0, rfl⟩
  case round =>
    clear S0
    obtain ⟨i, dk, rfl, hg1, hsk, S1, HO⟩ := hrel
    by_cases hlt : i < n
    · have hltz : (i : Int) < (n : Int) := by omega
      go_wp2_with fail
      obtain ⟨iN1, hiN1⟩ : ∃ qq, qq = a + i := ⟨_, rfl⟩
      obtain ⟨jN1, hjN1⟩ : ∃ qq, qq = b + i := ⟨_, rfl⟩
      have ea1 : ((a : Int) + (i : Int)).toNat = iN1 := by omega
      have pa1 : (0 : Int) ≤ (a : Int) + (i : Int) := by omega
      have ba1 : (a : Int) + (i : Int) < (d.size : Int) := by omega
      have ra1 : IntKind.i64.wrap ((a : Int) + (i : Int)) = (a : Int) + (i : Int) := by rw [IntKind.wrap_i64]; omega
      have ec1 : ((b : Int) + (i : Int)).toNat = jN1 := by omega
      have pc1 : (0 : Int) ≤ (b : Int) + (i : Int) := by omega
      have bc1 : (b : Int) + (i : Int) < (d.size : Int) := by omega
      have rc1 : IntKind.i64.wrap ((b : Int) + (i : Int)) = (b : Int) + (i : Int) := by rw [IntKind.wrap_i64]; omega
      obtain ⟨x1, hx1⟩ : ∃ x, x = dk[a + i]! := ⟨_, rfl⟩
      obtain ⟨y1, hy1⟩ : ∃ x, x = dk[b + i]! := ⟨_, rfl⟩
      have S2 : Aside (SW (encV zf) w0 blk off (swp dk (a + i) (b + i)) ((wr.setCell ⟨blk, off + iN1, none⟩ ((encV zf) y1)).setCell ⟨blk, off + jN1, none⟩ ((encV zf) x1)).drew) := by rw [hiN1, hjN1, hx1, hy1]; exact S1.out.swapped R (a + i) (b + i) (by omega) (by omega)
      have c1a := S1.out.c1 R (by omega) (a + i) (by omega)
      have c1b := S1.out.c1 R (by omega) (b + i) (by omega)
      have f1a := S1.out.f1 R (by omega) (a + i) (by omega)
      have f1b := S1.out.f1 R (by omega) (b + i) (by omega)
      obtain ⟨u1, c1c⟩ := S1.out.c2 R (by omega) (a + i) (b + i) (by omega) (by omega) ((encV zf) y1)
      rw [← hjN1, ← hiN1] at c1c
      rw [← hx1, ← hiN1] at c1a
      rw [← hy1, ← hjN1] at c1b
      rw [← hiN1] at f1a
      rw [← hjN1] at f1b
      clear S1 hx1 hy1 hiN1 hjN1
      go_wp2_with fail
      go_big_region_o
      clear c1a c1b c1c f1a f1b
      generalize ((wr.setCell ⟨blk, off + iN1, none⟩ ((encV zf) y1)).setCell ⟨blk, off + jN1, none⟩ ((encV zf) x1)).drew = w2 at S2 ⊢
      clear ea1 ec1
      go_wp2
      go_roundg (n - (i + 1))
      case measure => omega
      case rel => exact ⟨i + 1, swp dk (a + i) (b + i), by go_num, Nat.le_refl _, by rw [size_swp]; exact hsk, S2, (show Hid _ from by rw [← HO.out, swRange_go hlt]; exact rfl)⟩
    · have hltz : ¬ (i : Int) < (n : Int) := by omega
      go_wp2
      go_end0
      exact ⟨rfl, by rw [← HO.out, swRange_stop hlt]; exact S1.out⟩

/-- .. however its numbers are written. -/
theorem swapRange_i (g : Nat) (cb : Array Value) (blk off cap a b n N : Nat) (za zb zn : Int) (d0 d : Array α) (w0 w : World)
    (R : Row1 (encV zf) w0 blk off d0) (hs : d0.size = N) (hN : d.size = N) (S : SW (encV zf) w0 blk off d w) (ha : a + n ≤ N) (hb : b + n ≤ N) (hsz : N < 4611686018427387904) (ea : za = (a : Int)) (eb : zb = (b : Int)) (en : zn = (n : Int)) :
    Calls Try.prog 119 #[.slice (some ⟨blk, off, none⟩) N cap, .int .i64 za, .int .i64 zb, .int .i64 zn, .func (.func g) #[] cb] w fun e w' => e = .returned (.tuple #[]) ∧ SW (encV zf) w0 blk off (swRange a b n 0 d) w' := by
  subst ea eb en hN
  exact swapRange_s g cb blk off cap a b n d0 d w0 w R hs S ha hb hsz

set_option maxHeartbeats 4000000 in
set_option maxRecDepth 1000000 in
theorem rotate_s (g : Nat) (cb : Array Value) (blk off cap a m b : Nat) (d0 d : Array α) (w0 w : World)
    (R : Row1 (encV zf) w0 blk off d0) (hs : d0.size = d.size) (S : SW (encV zf) w0 blk off d w) (ha : a < m) (hb : m < b) (hbd : b ≤ d.size) (hsz : d.size < 4611686018427387904) :
    Calls Try.prog 117 #[.slice (some ⟨blk, off, none⟩) d.size cap, .int .i64 a, .int .i64 m, .int .i64 b, .func (.func g) #[] cb] w fun e w' => e = .returned (.tuple #[]) ∧ SW (encV zf) w0 blk off (rotGo m (m - a) (b - m) d) w' := by
  have mixed : Try.prog.follows .mixedOrders = true := by kernel_rfl
  have S0 : Aside (SW (encV zf) w0 blk off d w) := S
  clear S
  go_enter Try.func117, Try.ntmps117
  go_wp2
  go_loopg [10, 11] (b - a) (fun g1 vi vj wr => ∃ (i j : Nat) (dk : Array α), vi = .int .i64 i ∧ vj = .int .i64 j ∧ 0 < i ∧ 0 < j ∧ i ≤ m - a ∧ j ≤ b - m ∧ i + j ≤ g1 ∧ dk.size = d.size ∧ Aside (SW (encV zf) w0 blk off dk wr) ∧ Hid (rotGo m i j dk = rotGo m (m - a) (b - m) d))
  case atStart => exact ⟨m - a, b - m, d, by congr 1; omega, by congr 1; omega, by omega, by omega, Nat.le_refl _, Nat.le_refl _, by omega, rfl, S0, rfl⟩
  case round =>
    clear S0
    obtain ⟨i, j, dk, rfl, rfl, hi, hj, him, hjb, hg1, hsk, S1, HO⟩ := hrel
    by_cases heq : i = j
    · have hne : ((i : Int) == (j : Int)) = true := by simp [heq]
      have hne2 : (i : Int) = (j : Int) := by omega
      go_wp2_with (go_at_call 119; refine (swapRange_i g cb blk off cap (m - i) m i d.size _ _ _ d0 dk w0 _ R hs hsk S1.out (by omega) (by omega) hsz (by omega) (by omega) (by omega)).mono ?_; rintro e w' ⟨rfl, hS⟩)
      go_end0
      exact ⟨rfl, by rw [← HO.out, ← heq, rotGo_stop]; exact hS⟩
    · have hne : ((i : Int) == (j : Int)) = false := by simp; omega
      have hne2 : ¬ (i : Int) = (j : Int) := by omega
      by_cases hlt : j < i
      · have hltz : (j : Int) < (i : Int) := by omega
        go_wp2_with (go_at_call 119; refine (swapRange_i g cb blk off cap (m - i) m j d.size _ _ _ d0 dk w0 _ R hs hsk S1.out (by omega) (by omega) hsz (by omega) (by omega) (by omega)).mono ?_; rintro e w' ⟨rfl, hS⟩; have S2 : Aside _ := hS; clear hS S1)
        go_roundg i
        case measure => omega
        case rel => exact ⟨i - j, j, _, by go_num, rfl, by omega, hj, by omega, hjb, by omega, by rw [(swRange_swaps _ _ _ _ _ dk (Nat.le_refl _) (by omega) (by omega)).size]; exact hsk, S2, (show Hid _ from by rw [← HO.out, rotGo_more hlt hj]; exact rfl)⟩
      · have hltz : ¬ (j : Int) < (i : Int) := by omega
        go_wp2_with (go_at_call 119; refine (swapRange_i g cb blk off cap (m - i) (m + j - i) i d.size _ _ _ d0 dk w0 _ R hs hsk S1.out (by omega) (by omega) hsz (by omega) (by omega) (by omega)).mono ?_; rintro e w' ⟨rfl, hS⟩; have S2 : Aside _ := hS; clear hS S1)
        go_roundg j
        case measure => omega
        case rel => exact ⟨i, j - i, _, rfl, by go_num, hi, by omega, him, by omega, by omega, by rw [(swRange_swaps _ (m - i) (m + j - i) i 0 dk (Nat.le_refl _) (by omega) (by omega)).size]; exact hsk, S2, (show Hid _ from by rw [← HO.out, rotGo_less (show i < j by omega) hi]; exact rfl)⟩

end Go.Proofs.Ytokghdcfbbogdaa
