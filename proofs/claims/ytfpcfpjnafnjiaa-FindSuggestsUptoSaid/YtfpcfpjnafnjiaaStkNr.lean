/-
  WALKS: slices.SortStableFunc's parts at values (elements of several cells): swapRange, rotate, the two ends of symMerge.
-/
import Derived.Test.YtfpcfpjnafnjiaaStp
import Derived.Shelf.SlSortCmp.Insertion
import Derived.Test.YtfpcfpjnafnjiaaInts
import Derived.Shelf.SlSortCmp.Insertion1
import Derived.Shelf.SlSortCmp.KitK
import Derived.Deep.DeepCutAuto
import Derived.Deep.RegionWith
set_option linter.all false
namespace Go.Proofs.Ytfpcfpjnafnjiaa
open Go.RowKit Go.Shelf Go.Lib Go.Sort
/-- How many cells a value takes: a number that no step takes apart. -/
def five_Nr : Nat := 3
theorem sizeOf_five_Nr : ∀ w, (Go.sizeOf 45).run Try.prog w = .ok five_Nr w := Try.sizeOf45
theorem sizeOf_five2_Nr : ∀ w, Sem.run Try.prog (Go.sizeOf (45 : Nat)) w = Result.ok five_Nr w := Try.sizeOf45
attribute [local simp high] sizeOf_five_Nr sizeOf_five2_Nr
variable {α : Type} [Inhabited α] {enc : α → List Value}

set_option maxHeartbeats 4000000 in
set_option maxRecDepth 1000000 in
theorem swapRange_sK_Nr (g : Nat) (cb : Array Value) (blk off cap a b n : Nat) (d0 d : Array α) (w0 w : World)
    (R : RowK enc five_Nr w0 blk off d0) (hs : d0.size = d.size) (S : SWK enc five_Nr w0 blk off d w) (ha : a + n ≤ d.size) (hb : b + n ≤ d.size) (hsz : d.size < 4611686018427387904) :
    Calls Try.prog 75 #[.slice (some ⟨blk, off, none⟩) d.size cap, .int .i64 a, .int .i64 b, .int .i64 n, .func (.func g) #[] cb] w fun e w' => e = .returned (.tuple #[]) ∧ SWK enc five_Nr w0 blk off (swRange a b n 0 d) w' := by
  have mixed : Try.prog.follows .mixedOrders = true := by kernel_rfl
  have S0 : Aside (SWK enc five_Nr w0 blk off d w) := S
  clear S
  go_enter Try.func75, Try.ntmps75
  go_wp2
  go_loopg [10] n (fun g1 vi wr => ∃ (i : Nat) (dk : Array α), vi = .int .i64 i ∧ n - i ≤ g1 ∧ dk.size = d.size ∧ Aside (SWK enc five_Nr w0 blk off dk wr) ∧ Hid (swRange a b n i dk = swRange a b n 0 d))
  case atStart => exact ⟨0, d, rfl, by omega, rfl, S0, rfl⟩
  case round =>
    clear S0
    obtain ⟨i, dk, rfl, hg1, hsk, S1, HO⟩ := hrel
    by_cases hlt : i < n
    · have hltz : (i : Int) < (n : Int) := by omega
      go_wp2_with fail
      obtain ⟨iN1, hiN1⟩ : ∃ qq, qq = a + i := ⟨_, rfl⟩
      obtain ⟨jN1, hjN1⟩ : ∃ qq, qq = b + i := ⟨_, rfl⟩
      have ea1 : ((a : Int) + (i : Int)).toNat = iN1 := by omega
      have pa1 : (0 : Int) ≤ (a : Int) + (i : Int) := by omega
      have ba1 : (a : Int) + (i : Int) < (d.size : Int) := by omega
      have ra1 : IntKind.i64.wrap ((a : Int) + (i : Int)) = (a : Int) + (i : Int) := by rw [IntKind.wrap_i64]; omega
      have ec1 : ((b : Int) + (i : Int)).toNat = jN1 := by omega
      have pc1 : (0 : Int) ≤ (b : Int) + (i : Int) := by omega
      have bc1 : (b : Int) + (i : Int) < (d.size : Int) := by omega
      have rc1 : IntKind.i64.wrap ((b : Int) + (i : Int)) = (b : Int) + (i : Int) := by rw [IntKind.wrap_i64]; omega
      obtain ⟨x1, hx1⟩ : ∃ x, x = dk[a + i]! := ⟨_, rfl⟩
      obtain ⟨y1, hy1⟩ : ∃ x, x = dk[b + i]! := ⟨_, rfl⟩
      have S2 : Aside (SWK enc five_Nr w0 blk off (swp dk (a + i) (b + i)) ((wr.drew.setCells blk (off + iN1 * five_Nr) (enc y1)).setCells blk (off + jN1 * five_Nr) (enc x1))) := by rw [hiN1, hjN1, hx1, hy1]; exact S1.out.swapped R (a + i) (b + i) (by omega) (by omega)
      have l1a := S1.out.ld1 R (by omega) Try.prog (a + i) (by omega)
      have l1b := S1.out.ld1 R (by omega) Try.prog (b + i) (by omega)
      have s1a := S1.out.st1 R (by omega) Try.prog (a + i) (by omega) y1
      have s1b := S1.out.st2 R (by omega) Try.prog (a + i) (b + i) (by omega) (by omega) y1 x1
      rw [← hx1, ← hiN1] at l1a
      rw [← hy1, ← hjN1] at l1b
      rw [← hiN1] at s1a
      first | rw [← hjN1, ← hiN1] at s1b | rw [← hiN1, ← hjN1] at s1b
      have n1a : (enc x1).length = five_Nr := R.hk _
      have n1b : (enc y1).length = five_Nr := R.hk _
      clear S1 hx1 hy1 hiN1 hjN1
      generalize enc x1 = cI1 at S2 l1a s1b n1a
      generalize enc y1 = cJ1 at S2 l1b s1a s1b n1b
      go_wp2_with fail
      go_big_region_o
      clear l1a l1b s1a s1b
      generalize (wr.drew.setCells blk (off + iN1 * five_Nr) cJ1).setCells blk (off + jN1 * five_Nr) cI1 = w2 at S2 ⊢
      clear ea1 ec1
      go_wp2
      go_roundg (n - (i + 1))
      case measure => omega
      case rel => exact ⟨i + 1, swp dk (a + i) (b + i), by go_num, Nat.le_refl _, by rw [size_swp]; exact hsk, S2, (show Hid _ from by rw [← HO.out, swRange_go hlt]; exact rfl)⟩
    · have hltz : ¬ (i : Int) < (n : Int) := by omega
      go_wp2
      go_end0
      exact ⟨rfl, by rw [← HO.out, swRange_stop hlt]; exact S1.out⟩

/-- .. however its numbers are written. -/
theorem swapRange_iK_Nr (g : Nat) (cb : Array Value) (blk off cap a b n N : Nat) (za zb zn : Int) (d0 d : Array α) (w0 w : World)
    (R : RowK enc five_Nr w0 blk off d0) (hs : d0.size = N) (hN : d.size = N) (S : SWK enc five_Nr w0 blk off d w) (ha : a + n ≤ N) (hb : b + n ≤ N) (hsz : N < 4611686018427387904) (ea : za = (a : Int)) (eb : zb = (b : Int)) (en : zn = (n : Int)) :
    Calls Try.prog 75 #[.slice (some ⟨blk, off, none⟩) N cap, .int .i64 za, .int .i64 zb, .int .i64 zn, .func (.func g) #[] cb] w fun e w' => e = .returned (.tuple #[]) ∧ SWK enc five_Nr w0 blk off (swRange a b n 0 d) w' := by
  subst ea eb en hN
  exact swapRange_sK_Nr g cb blk off cap a b n d0 d w0 w R hs S ha hb hsz

set_option maxHeartbeats 4000000 in
set_option maxRecDepth 1000000 in
theorem rotate_sK_Nr (g : Nat) (cb : Array Value) (blk off cap a m b : Nat) (d0 d : Array α) (w0 w : World)
    (R : RowK enc five_Nr w0 blk off d0) (hs : d0.size = d.size) (S : SWK enc five_Nr w0 blk off d w) (ha : a < m) (hb : m < b) (hbd : b ≤ d.size) (hsz : d.size < 4611686018427387904) :
    Calls Try.prog 73 #[.slice (some ⟨blk, off, none⟩) d.size cap, .int .i64 a, .int .i64 m, .int .i64 b, .func (.func g) #[] cb] w fun e w' => e = .returned (.tuple #[]) ∧ SWK enc five_Nr w0 blk off (rotGo m (m - a) (b - m) d) w' := by
  have mixed : Try.prog.follows .mixedOrders = true := by kernel_rfl
  have S0 : Aside (SWK enc five_Nr w0 blk off d w) := S
  clear S
  go_enter Try.func73, Try.ntmps73
  go_wp2
  go_loopg [10, 11] (b - a) (fun g1 vi vj wr => ∃ (i j : Nat) (dk : Array α), vi = .int .i64 i ∧ vj = .int .i64 j ∧ 0 < i ∧ 0 < j ∧ i ≤ m - a ∧ j ≤ b - m ∧ i + j ≤ g1 ∧ dk.size = d.size ∧ Aside (SWK enc five_Nr w0 blk off dk wr) ∧ Hid (rotGo m i j dk = rotGo m (m - a) (b - m) d))
  case atStart => exact ⟨m - a, b - m, d, by congr 1; omega, by congr 1; omega, by omega, by omega, Nat.le_refl _, Nat.le_refl _, by omega, rfl, S0, rfl⟩
  case round =>
    clear S0
    obtain ⟨i, j, dk, rfl, rfl, hi, hj, him, hjb, hg1, hsk, S1, HO⟩ := hrel
    by_cases heq : i = j
    · have hne : ((i : Int) == (j : Int)) = true := by simp [heq]
      have hne2 : (i : Int) = (j : Int) := by omega
      go_wp2_with (go_at_call 75; refine (swapRange_iK_Nr g cb blk off cap (m - i) m i d.size _ _ _ d0 dk w0 _ R hs hsk S1.out (by omega) (by omega) hsz (by omega) (by omega) (by omega)).mono ?_; rintro e w' ⟨rfl, hS⟩)
      go_end0
      exact ⟨rfl, by rw [← HO.out, ← heq, rotGo_stop]; exact hS⟩
    · have hne : ((i : Int) == (j : Int)) = false := by simp; omega
      have hne2 : ¬ (i : Int) = (j : Int) := by omega
      by_cases hlt : j < i
      · have hltz : (j : Int) < (i : Int) := by omega
        go_wp2_with (go_at_call 75; refine (swapRange_iK_Nr g cb blk off cap (m - i) m j d.size _ _ _ d0 dk w0 _ R hs hsk S1.out (by omega) (by omega) hsz (by omega) (by omega) (by omega)).mono ?_; rintro e w' ⟨rfl, hS⟩; have S2 : Aside _ := hS; clear hS S1)
        go_roundg i
        case measure => omega
        case rel => exact ⟨i - j, j, _, by go_num, rfl, by omega, hj, by omega, hjb, by omega, by rw [(swRange_swaps _ _ _ _ _ dk (Nat.le_refl _) (by omega) (by omega)).size]; exact hsk, S2, (show Hid _ from by rw [← HO.out, rotGo_more hlt hj]; exact rfl)⟩
      · have hltz : ¬ (j : Int) < (i : Int) := by omega
        go_wp2_with (go_at_call 75; refine (swapRange_iK_Nr g cb blk off cap (m - i) (m + j - i) i d.size _ _ _ d0 dk w0 _ R hs hsk S1.out (by omega) (by omega) hsz (by omega) (by omega) (by omega)).mono ?_; rintro e w' ⟨rfl, hS⟩; have S2 : Aside _ := hS; clear hS S1)
        go_roundg j
        case measure => omega
        case rel => exact ⟨i, j - i, _, rfl, by go_num, hi, by omega, him, by omega, by omega, by rw [(swRange_swaps _ (m - i) (m + j - i) i 0 dk (Nat.le_refl _) (by omega) (by omega)).size]; exact hsk, S2, (show Hid _ from by rw [← HO.out, rotGo_less (show i < j by omega) hi]; exact rfl)⟩

end Go.Proofs.Ytfpcfpjnafnjiaa
/-
  WALKS: slices.symMergeCmpFunc at ints, of one element, and one.
-/
namespace Go.Proofs.Ytfpcfpjnafnjiaa
open Go.RowKit Go.Shelf Go.Lib Go.Sort
attribute [local simp high] sizeOf_five_Nr sizeOf_five2_Nr
variable {α : Type} [Inhabited α] {enc : α → List Value}

set_option maxHeartbeats 8000000 in
set_option maxRecDepth 1000000 in
/-- One element is led to its place. -/
theorem symMerge_oneK_Nr (g : Nat) (cb : Array Value) (cf : α → α → Int) (blk off cap N : Nat) (d0 : Array α) (w0 : World) (eg : ∀ args w, (callFunc g args).run Try.prog w = .ok (.enter g args) w) (hcmp : CmpLays Try.prog g cb enc five_Nr cf blk off N w0) (R : RowK enc five_Nr w0 blk off d0) (hs : d0.size = N) (hsz : N < 4611686018427387904)
    (f a m b : Nat) (d : Array α) (w : World) (hN : d.size = N) (S : SWK enc five_Nr w0 blk off d w) (h1 : a < m) (h2 : m < b) (h3 : b ≤ N) (e1 : m - a = 1) :
    Calls Try.prog 67 #[.slice (some ⟨blk, off, none⟩) N cap, .int .i64 a, .int .i64 m, .int .i64 b, .func (.func g) #[] cb] w fun e w' => e = .returned (.tuple #[]) ∧ SWK enc five_Nr w0 blk off (symM (ltOf cf) (f + 1) a m b d) w' := by
  rw [symM_one _ e1]
  have mixed : Try.prog.follows .mixedOrders = true := by kernel_rfl
  have HC : Aside _ := hcmp
  have S0 : Aside (SWK enc five_Nr w0 blk off d w) := S
  clear S hcmp
  have t1 : (m : Int) - (a : Int) = 1 := by omega
  go_enter Try.func67, Try.ntmps67
  go_wp2
  go_loopg [10, 11] b (fun g1 vi vj wr => ∃ (i j : Nat), vi = .int .i64 i ∧ vj = .int .i64 j ∧ m ≤ i ∧ i ≤ j ∧ j ≤ b ∧ j - i ≤ g1 ∧ Aside (SWK enc five_Nr w0 blk off d wr) ∧ Hid (half (fun h => ltOf cf d[h]! d[a]!) i j = half (fun h => ltOf cf d[h]! d[a]!) m b))
  case atStart => exact ⟨m, b, rfl, rfl, Nat.le_refl _, by omega, Nat.le_refl _, by omega, S0, rfl⟩
  case round =>
    clear S0
    obtain ⟨i, j, rfl, rfl, hmi, hij, hjb, hg1, S1, HO⟩ := hrel
    by_cases hlt : i < j
    · have hltz : (i : Int) < (j : Int) := by omega
      cases hlv : ltOf cf d[(i + j) / 2]! d[a]! with
      | true =>
        have HO2 : Hid (half (fun h => ltOf cf d[h]! d[a]!) ((i + j) / 2 + 1) j = half (fun h => ltOf cf d[h]! d[a]!) m b) := by show _ = _; rw [← HO.out, half_yes (i := i) (j := j) hlt hlv]
        clear HO
        obtain ⟨iN1, hiN1⟩ : ∃ qq, qq = (i + j) / 2 := ⟨_, rfl⟩
        obtain ⟨jN1, hjN1⟩ : ∃ qq, qq = a := ⟨_, rfl⟩
        have ea1 : (((i : Int) + (j : Int)) / 2).toNat = iN1 := by omega
        have pa1 : (0 : Int) ≤ ((i : Int) + (j : Int)) / 2 := by omega
        have ba1 : ((i : Int) + (j : Int)) / 2 < (N : Int) := by omega
        have ra1 : IntKind.i64.wrap (((i : Int) + (j : Int)) / 2) = ((i : Int) + (j : Int)) / 2 := by rw [IntKind.wrap_i64]; omega
        have ec1 : ((a : Int)).toNat = jN1 := by omega
        have pc1 : (0 : Int) ≤ (a : Int) := by omega
        have bc1 : (a : Int) < (N : Int) := by omega
        have rc1 : IntKind.i64.wrap ((a : Int)) = (a : Int) := by rw [IntKind.wrap_i64]; omega
        obtain ⟨x1, hx1⟩ : ∃ x, x = d[(i + j) / 2]! := ⟨_, rfl⟩
        obtain ⟨y1, hy1⟩ : ∃ x, x = d[a]! := ⟨_, rfl⟩
        have l1a := S1.out.ld R (by omega) Try.prog ((i + j) / 2) (by omega)
        have l1b := S1.out.ld R (by omega) Try.prog (a) (by omega)
        rw [← hx1, ← hiN1] at l1a
        rw [← hy1, ← hjN1] at l1b
        have hc1 := S1.out.cmp HC.out (by omega) x1 y1
        have hv1 : cf x1 y1 < 0 := by rw [hx1, hy1]; exact of_decide_eq_true hlv
        have hd1 : decide (cf x1 y1 < 0) = true := decide_eq_true hv1
        clear hx1 hy1 hiN1 hjN1
        go_wp2_with fail
        go_quiet_grown (first | (go_at_fn g; refine Calls.grown_of (hc1 _ _)))
        have S2 : Aside (SWK enc five_Nr w0 blk off d (grow (wr.drewN nq) osq)) := S1.out.grown nq osq
        clear l1a l1b hc1 S1
        generalize grow (wr.drewN nq) osq = w2 at S2 ⊢
        clear nq osq
        clear ea1 ec1
        go_wp2
        go_roundg (j - ((i + j) / 2 + 1))
        case measure => omega
        case rel => exact ⟨(i + j) / 2 + 1, j, by go_num, rfl, by omega, by omega, hjb, Nat.le_refl _, S2, HO2⟩
      | false =>
        have HO2 : Hid (half (fun h => ltOf cf d[h]! d[a]!) i ((i + j) / 2) = half (fun h => ltOf cf d[h]! d[a]!) m b) := by show _ = _; rw [← HO.out, half_no (i := i) (j := j) hlt hlv]
        clear HO
        obtain ⟨iN2, hiN2⟩ : ∃ qq, qq = (i + j) / 2 := ⟨_, rfl⟩
        obtain ⟨jN2, hjN2⟩ : ∃ qq, qq = a := ⟨_, rfl⟩
        have ea2 : (((i : Int) + (j : Int)) / 2).toNat = iN2 := by omega
        have pa2 : (0 : Int) ≤ ((i : Int) + (j : Int)) / 2 := by omega
        have ba2 : ((i : Int) + (j : Int)) / 2 < (N : Int) := by omega
        have ra2 : IntKind.i64.wrap (((i : Int) + (j : Int)) / 2) = ((i : Int) + (j : Int)) / 2 := by rw [IntKind.wrap_i64]; omega
        have ec2 : ((a : Int)).toNat = jN2 := by omega
        have pc2 : (0 : Int) ≤ (a : Int) := by omega
        have bc2 : (a : Int) < (N : Int) := by omega
        have rc2 : IntKind.i64.wrap ((a : Int)) = (a : Int) := by rw [IntKind.wrap_i64]; omega
        obtain ⟨x2, hx2⟩ : ∃ x, x = d[(i + j) / 2]! := ⟨_, rfl⟩
        obtain ⟨y2, hy2⟩ : ∃ x, x = d[a]! := ⟨_, rfl⟩
        have l2a := S1.out.ld R (by omega) Try.prog ((i + j) / 2) (by omega)
        have l2b := S1.out.ld R (by omega) Try.prog (a) (by omega)
        rw [← hx2, ← hiN2] at l2a
        rw [← hy2, ← hjN2] at l2b
        have hc2 := S1.out.cmp HC.out (by omega) x2 y2
        have hv2 : ¬ cf x2 y2 < 0 := by rw [hx2, hy2]; exact of_decide_eq_false hlv
        have hd2 : decide (cf x2 y2 < 0) = false := decide_eq_false hv2
        clear hx2 hy2 hiN2 hjN2
        go_wp2_with fail
        go_quiet_grown (first | (go_at_fn g; refine Calls.grown_of (hc2 _ _)))
        have S2 : Aside (SWK enc five_Nr w0 blk off d (grow (wr.drewN nq) osq)) := S1.out.grown nq osq
        clear l2a l2b hc2 S1
        generalize grow (wr.drewN nq) osq = w2 at S2 ⊢
        clear nq osq
        clear ea2 ec2
        go_wp2
        go_roundg ((i + j) / 2 - i)
        case measure => omega
        case rel => exact ⟨i, (i + j) / 2, rfl, by go_num, hmi, by omega, by omega, Nat.le_refl _, S2, HO2⟩
    · have hltz : ¬ (i : Int) < (j : Int) := by omega
      have HI : Hid (i = half (fun h => ltOf cf d[h]! d[a]!) m b) := by show _ = _; rw [← HO.out, half_stop hlt]
      clear HO
      go_wp2
      go_loopg [13] b (fun g2 vk wr2 => ∃ (k : Nat) (dk : Array α), vk = .int .i64 k ∧ a ≤ k ∧ b - k ≤ g2 ∧ dk.size = N ∧ Aside (SWK enc five_Nr w0 blk off dk wr2) ∧ Hid (upGo k (i - 1) dk = upGo a (i - 1) d))
      case atStart => exact ⟨a, d, rfl, Nat.le_refl _, by omega, hN, S1, rfl⟩
      case round =>
        clear S1
        obtain ⟨k, dk, rfl, hak, hg2, hsk, S1, HU⟩ := hrel
        by_cases hk : k < i - 1
        · have hkz : (k : Int) < (i : Int) - 1 := by omega
          go_wp2_with fail
          obtain ⟨iN3, hiN3⟩ : ∃ qq, qq = k := ⟨_, rfl⟩
          obtain ⟨jN3, hjN3⟩ : ∃ qq, qq = k + 1 := ⟨_, rfl⟩
          have ea3 : ((k : Int)).toNat = iN3 := by omega
          have pa3 : (0 : Int) ≤ (k : Int) := by omega
          have ba3 : (k : Int) < (N : Int) := by omega
          have ra3 : IntKind.i64.wrap ((k : Int)) = (k : Int) := by rw [IntKind.wrap_i64]; omega
          have ec3 : ((k : Int) + 1).toNat = jN3 := by omega
          have pc3 : (0 : Int) ≤ (k : Int) + 1 := by omega
          have bc3 : (k : Int) + 1 < (N : Int) := by omega
          have rc3 : IntKind.i64.wrap ((k : Int) + 1) = (k : Int) + 1 := by rw [IntKind.wrap_i64]; omega
          obtain ⟨x3, hx3⟩ : ∃ x, x = dk[k]! := ⟨_, rfl⟩
          obtain ⟨y3, hy3⟩ : ∃ x, x = dk[k + 1]! := ⟨_, rfl⟩
          have S2 : Aside (SWK enc five_Nr w0 blk off (swp dk (k) (k + 1)) ((wr.drew.setCells blk (off + iN3 * five_Nr) (enc y3)).setCells blk (off + jN3 * five_Nr) (enc x3))) := by rw [hiN3, hjN3, hx3, hy3]; exact S1.out.swapped R (k) (k + 1) (by omega) (by omega)
          have l3a := S1.out.ld1 R (by omega) Try.prog (k) (by omega)
          have l3b := S1.out.ld1 R (by omega) Try.prog (k + 1) (by omega)
          have s3a := S1.out.st1 R (by omega) Try.prog (k) (by omega) y3
          have s3b := S1.out.st2 R (by omega) Try.prog (k) (k + 1) (by omega) (by omega) y3 x3
          rw [← hx3, ← hiN3] at l3a
          rw [← hy3, ← hjN3] at l3b
          rw [← hiN3] at s3a
          first | rw [← hjN3, ← hiN3] at s3b | rw [← hiN3, ← hjN3] at s3b
          have n3a : (enc x3).length = five_Nr := R.hk _
          have n3b : (enc y3).length = five_Nr := R.hk _
          clear S1 hx3 hy3 hiN3 hjN3
          generalize enc x3 = cI3 at S2 l3a s3b n3a
          generalize enc y3 = cJ3 at S2 l3b s3a s3b n3b
          go_wp2_with fail
          go_big_region_o
          clear l3a l3b s3a s3b
          generalize (wr.drew.setCells blk (off + iN3 * five_Nr) cJ3).setCells blk (off + jN3 * five_Nr) cI3 = w3 at S2 ⊢
          clear ea3 ec3
          go_wp2
          go_roundg (b - (k + 1))
          case measure => omega
          case rel => exact ⟨k + 1, swp dk k (k + 1), by go_num, by omega, Nat.le_refl _, by rw [size_swp]; exact hsk, S2, (show Hid _ from by rw [← HU.out, upGo_go (k := k) hk]; exact rfl)⟩
        · have hkz : ¬ (k : Int) < (i : Int) - 1 := by omega
          go_wp2
          go_returns
          exact ⟨rfl, by rw [← HI.out, ← HU.out, upGo_stop hk]; exact S1.out⟩

end Go.Proofs.Ytfpcfpjnafnjiaa
/-
  WALKS: slices.symMergeCmpFunc at ints, of some elements and one.
-/
namespace Go.Proofs.Ytfpcfpjnafnjiaa
open Go.RowKit Go.Shelf Go.Lib Go.Sort
attribute [local simp high] sizeOf_five_Nr sizeOf_five2_Nr
variable {α : Type} [Inhabited α] {enc : α → List Value}

set_option maxHeartbeats 8000000 in
set_option maxRecDepth 1000000 in
/-- The last element is led to its place. -/
theorem symMerge_lastK_Nr (g : Nat) (cb : Array Value) (cf : α → α → Int) (blk off cap N : Nat) (d0 : Array α) (w0 : World) (eg : ∀ args w, (callFunc g args).run Try.prog w = .ok (.enter g args) w) (hcmp : CmpLays Try.prog g cb enc five_Nr cf blk off N w0) (R : RowK enc five_Nr w0 blk off d0) (hs : d0.size = N) (hsz : N < 4611686018427387904)
    (f a m b : Nat) (d : Array α) (w : World) (hN : d.size = N) (S : SWK enc five_Nr w0 blk off d w) (h1 : a < m) (h2 : m < b) (h3 : b ≤ N) (e1 : ¬ m - a = 1) (e2 : b - m = 1) :
    Calls Try.prog 67 #[.slice (some ⟨blk, off, none⟩) N cap, .int .i64 a, .int .i64 m, .int .i64 b, .func (.func g) #[] cb] w fun e w' => e = .returned (.tuple #[]) ∧ SWK enc five_Nr w0 blk off (symM (ltOf cf) (f + 1) a m b d) w' := by
  rw [symM_last _ e1 e2]
  have mixed : Try.prog.follows .mixedOrders = true := by kernel_rfl
  have HC : Aside _ := hcmp
  have S0 : Aside (SWK enc five_Nr w0 blk off d w) := S
  clear S hcmp
  have t1 : ((m : Int) - (a : Int) == 1) = false := by simp; omega
  have t2 : ((b : Int) - (m : Int) == 1) = true := by simp; omega
  go_enter Try.func67, Try.ntmps67
  go_wp2
  go_loopg [14, 15] b (fun g1 vi vj wr => ∃ (i j : Nat), vi = .int .i64 i ∧ vj = .int .i64 j ∧ a ≤ i ∧ i ≤ j ∧ j ≤ m ∧ j - i ≤ g1 ∧ Aside (SWK enc five_Nr w0 blk off d wr) ∧ Hid (half (fun h => !ltOf cf d[m]! d[h]!) i j = half (fun h => !ltOf cf d[m]! d[h]!) a m))
  case atStart => exact ⟨a, m, rfl, rfl, Nat.le_refl _, by omega, Nat.le_refl _, by omega, S0, rfl⟩
  case round =>
    clear S0
    obtain ⟨i, j, rfl, rfl, hmi, hij, hjb, hg1, S1, HO⟩ := hrel
    by_cases hlt : i < j
    · have hltz : (i : Int) < (j : Int) := by omega
      cases hlv : ltOf cf d[m]! d[(i + j) / 2]! with
      | false =>
        have HO2 : Hid (half (fun h => !ltOf cf d[m]! d[h]!) ((i + j) / 2 + 1) j = half (fun h => !ltOf cf d[m]! d[h]!) a m) := by show _ = _; rw [← HO.out, half_yes (i := i) (j := j) hlt (by rw [hlv]; rfl)]
        clear HO
        obtain ⟨iN1, hiN1⟩ : ∃ qq, qq = m := ⟨_, rfl⟩
        obtain ⟨jN1, hjN1⟩ : ∃ qq, qq = (i + j) / 2 := ⟨_, rfl⟩
        have ea1 : ((m : Int)).toNat = iN1 := by omega
        have pa1 : (0 : Int) ≤ (m : Int) := by omega
        have ba1 : (m : Int) < (N : Int) := by omega
        have ra1 : IntKind.i64.wrap ((m : Int)) = (m : Int) := by rw [IntKind.wrap_i64]; omega
        have ec1 : (((i : Int) + (j : Int)) / 2).toNat = jN1 := by omega
        have pc1 : (0 : Int) ≤ ((i : Int) + (j : Int)) / 2 := by omega
        have bc1 : ((i : Int) + (j : Int)) / 2 < (N : Int) := by omega
        have rc1 : IntKind.i64.wrap (((i : Int) + (j : Int)) / 2) = ((i : Int) + (j : Int)) / 2 := by rw [IntKind.wrap_i64]; omega
        obtain ⟨x1, hx1⟩ : ∃ x, x = d[m]! := ⟨_, rfl⟩
        obtain ⟨y1, hy1⟩ : ∃ x, x = d[(i + j) / 2]! := ⟨_, rfl⟩
        have l1a := S1.out.ld R (by omega) Try.prog (m) (by omega)
        have l1b := S1.out.ld R (by omega) Try.prog ((i + j) / 2) (by omega)
        rw [← hx1, ← hiN1] at l1a
        rw [← hy1, ← hjN1] at l1b
        have hc1 := S1.out.cmp HC.out (by omega) x1 y1
        have hv1 : ¬ cf x1 y1 < 0 := by rw [hx1, hy1]; exact of_decide_eq_false hlv
        have hd1 : decide (cf x1 y1 < 0) = false := decide_eq_false hv1
        clear hx1 hy1 hiN1 hjN1
        go_wp2_with fail
        go_quiet_grown (first | (go_at_fn g; refine Calls.grown_of (hc1 _ _)))
        have S2 : Aside (SWK enc five_Nr w0 blk off d (grow (wr.drewN nq) osq)) := S1.out.grown nq osq
        clear l1a l1b hc1 S1
        generalize grow (wr.drewN nq) osq = w2 at S2 ⊢
        clear nq osq
        clear ea1 ec1
        go_wp2
        go_roundg (j - ((i + j) / 2 + 1))
        case measure => omega
        case rel => exact ⟨(i + j) / 2 + 1, j, by go_num, rfl, by omega, by omega, hjb, Nat.le_refl _, S2, HO2⟩
      | true =>
        have HO2 : Hid (half (fun h => !ltOf cf d[m]! d[h]!) i ((i + j) / 2) = half (fun h => !ltOf cf d[m]! d[h]!) a m) := by show _ = _; rw [← HO.out, half_no (i := i) (j := j) hlt (by rw [hlv]; rfl)]
        clear HO
        obtain ⟨iN2, hiN2⟩ : ∃ qq, qq = m := ⟨_, rfl⟩
        obtain ⟨jN2, hjN2⟩ : ∃ qq, qq = (i + j) / 2 := ⟨_, rfl⟩
        have ea2 : ((m : Int)).toNat = iN2 := by omega
        have pa2 : (0 : Int) ≤ (m : Int) := by omega
        have ba2 : (m : Int) < (N : Int) := by omega
        have ra2 : IntKind.i64.wrap ((m : Int)) = (m : Int) := by rw [IntKind.wrap_i64]; omega
        have ec2 : (((i : Int) + (j : Int)) / 2).toNat = jN2 := by omega
        have pc2 : (0 : Int) ≤ ((i : Int) + (j : Int)) / 2 := by omega
        have bc2 : ((i : Int) + (j : Int)) / 2 < (N : Int) := by omega
        have rc2 : IntKind.i64.wrap (((i : Int) + (j : Int)) / 2) = ((i : Int) + (j : Int)) / 2 := by rw [IntKind.wrap_i64]; omega
        obtain ⟨x2, hx2⟩ : ∃ x, x = d[m]! := ⟨_, rfl⟩
        obtain ⟨y2, hy2⟩ : ∃ x, x = d[(i + j) / 2]! := ⟨_, rfl⟩
        have l2a := S1.out.ld R (by omega) Try.prog (m) (by omega)
        have l2b := S1.out.ld R (by omega) Try.prog ((i + j) / 2) (by omega)
        rw [← hx2, ← hiN2] at l2a
        rw [← hy2, ← hjN2] at l2b
        have hc2 := S1.out.cmp HC.out (by omega) x2 y2
        have hv2 : cf x2 y2 < 0 := by rw [hx2, hy2]; exact of_decide_eq_true hlv
        have hd2 : decide (cf x2 y2 < 0) = true := decide_eq_true hv2
        clear hx2 hy2 hiN2 hjN2
        go_wp2_with fail
        go_quiet_grown (first | (go_at_fn g; refine Calls.grown_of (hc2 _ _)))
        have S2 : Aside (SWK enc five_Nr w0 blk off d (grow (wr.drewN nq) osq)) := S1.out.grown nq osq
        clear l2a l2b hc2 S1
        generalize grow (wr.drewN nq) osq = w2 at S2 ⊢
        clear nq osq
        clear ea2 ec2
        go_wp2
        go_roundg ((i + j) / 2 - i)
        case measure => omega
        case rel => exact ⟨i, (i + j) / 2, rfl, by go_num, hmi, by omega, by omega, Nat.le_refl _, S2, HO2⟩
    · have hltz : ¬ (i : Int) < (j : Int) := by omega
      have HI : Hid (i = half (fun h => !ltOf cf d[m]! d[h]!) a m) := by show _ = _; rw [← HO.out, half_stop hlt]
      clear HO
      go_wp2
      go_loopg [17] m (fun g2 vk wr2 => ∃ (k : Nat) (dk : Array α), vk = .int .i64 k ∧ k ≤ m ∧ k ≤ g2 ∧ dk.size = N ∧ Aside (SWK enc five_Nr w0 blk off dk wr2) ∧ Hid (downGo i k dk = downGo i m d))
      case atStart => exact ⟨m, d, rfl, Nat.le_refl _, Nat.le_refl _, hN, S1, rfl⟩
      case round =>
        clear S1
        obtain ⟨k, dk, rfl, hak, hg2, hsk, S1, HU⟩ := hrel
        by_cases hk : i < k
        · have hkz : (i : Int) < (k : Int) := by omega
          obtain ⟨kp, hkp⟩ : ∃ q, q + 1 = k := ⟨k - 1, by omega⟩
          have zkp : (k : Int) = (kp : Int) + 1 := by omega
          have hkz2 : (i : Int) < (kp : Int) + 1 := by omega
          go_wp2_with fail
          obtain ⟨iN3, hiN3⟩ : ∃ qq, qq = k := ⟨_, rfl⟩
          obtain ⟨jN3, hjN3⟩ : ∃ qq, qq = k - 1 := ⟨_, rfl⟩
          have ea3 : ((kp : Int) + 1).toNat = iN3 := by omega
          have pa3 : (0 : Int) ≤ (kp : Int) + 1 := by omega
          have ba3 : (kp : Int) + 1 < (N : Int) := by omega
          have ra3 : IntKind.i64.wrap ((kp : Int) + 1) = (kp : Int) + 1 := by rw [IntKind.wrap_i64]; omega
          have ec3 : ((kp : Int)).toNat = jN3 := by omega
          have pc3 : (0 : Int) ≤ (kp : Int) := by omega
          have bc3 : (kp : Int) < (N : Int) := by omega
          have rc3 : IntKind.i64.wrap ((kp : Int)) = (kp : Int) := by rw [IntKind.wrap_i64]; omega
          obtain ⟨x3, hx3⟩ : ∃ x, x = dk[k]! := ⟨_, rfl⟩
          obtain ⟨y3, hy3⟩ : ∃ x, x = dk[k - 1]! := ⟨_, rfl⟩
          have S2 : Aside (SWK enc five_Nr w0 blk off (swp dk (k) (k - 1)) ((wr.drew.setCells blk (off + iN3 * five_Nr) (enc y3)).setCells blk (off + jN3 * five_Nr) (enc x3))) := by rw [hiN3, hjN3, hx3, hy3]; exact S1.out.swapped R (k) (k - 1) (by omega) (by omega)
          have l3a := S1.out.ld1 R (by omega) Try.prog (k) (by omega)
          have l3b := S1.out.ld1 R (by omega) Try.prog (k - 1) (by omega)
          have s3a := S1.out.st1 R (by omega) Try.prog (k) (by omega) y3
          have s3b := S1.out.st2 R (by omega) Try.prog (k) (k - 1) (by omega) (by omega) y3 x3
          rw [← hx3, ← hiN3] at l3a
          rw [← hy3, ← hjN3] at l3b
          rw [← hiN3] at s3a
          first | rw [← hjN3, ← hiN3] at s3b | rw [← hiN3, ← hjN3] at s3b
          have n3a : (enc x3).length = five_Nr := R.hk _
          have n3b : (enc y3).length = five_Nr := R.hk _
          clear S1 hx3 hy3 hiN3 hjN3
          generalize enc x3 = cI3 at S2 l3a s3b n3a
          generalize enc y3 = cJ3 at S2 l3b s3a s3b n3b
          go_wp2_with fail
          go_big_region_o
          clear l3a l3b s3a s3b
          generalize (wr.drew.setCells blk (off + iN3 * five_Nr) cJ3).setCells blk (off + jN3 * five_Nr) cI3 = w3 at S2 ⊢
          clear ea3 ec3
          go_wp2
          go_roundg (k - 1)
          case measure => omega
          case rel => exact ⟨k - 1, swp dk k (k - 1), by first | rfl | go_num | (congr 1; omega), by omega, Nat.le_refl _, by rw [size_swp]; exact hsk, S2, (show Hid _ from by rw [← HU.out, downGo_go (k := k) hk]; exact rfl)⟩
        · have hkz : ¬ (i : Int) < (k : Int) := by omega
          go_wp2
          go_returns
          exact ⟨rfl, by rw [← HI.out, ← HU.out, downGo_stop hk]; exact S1.out⟩

end Go.Proofs.Ytfpcfpjnafnjiaa
