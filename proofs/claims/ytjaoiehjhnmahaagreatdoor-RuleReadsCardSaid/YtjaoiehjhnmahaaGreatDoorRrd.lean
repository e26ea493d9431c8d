/-
  WALKS: a reader's units and lists, in the program.
-/
import Derived.Test.YtjaoiehjhnmahaaGreatDoorRrc
set_option linter.all false
namespace Go.Proofs.YtjaoiehjhnmahaaGreatDoor
open Go.RowKit

theorem Trn.low {p : Nat} {w W w1 : World} (h : Trn p w W) (hb : Below w.heap.size W w1) : Trn p w w1 :=
  ⟨hb.os.trans h.os, hb.tape.trans h.tape, hb.output.trans h.output, Nat.le_trans h.size hb.size, fun b hlt hn => (hb.block b hlt).trans (h.same b hlt hn)⟩
def lenV : Value → Nat
  | .slice _ n _ => n
  | _ => 0

theorem first_at {l : List ByteArray} {x : ByteArray} (h : x ∈ l) : ∃ k, k < l.length ∧ l.getD k ByteArray.empty = x ∧ ∀ j, j < k → l.getD j ByteArray.empty ≠ x := by
  induction l with
  | nil => cases h
  | cons a t ih =>
    by_cases ha : a = x
    · exact ⟨0, by simp, by simpa using ha, fun j hj => by omega⟩
    · rcases List.mem_cons.1 h with e | h
      · exact absurd e.symm ha
      · obtain ⟨k, hk, h1, h2⟩ := ih h
        refine ⟨k + 1, by simp; omega, by simpa using h1, fun j hj => ?_⟩
        cases j with
        | zero => simpa using ha
        | succ j => simpa using h2 j (by omega)

set_option maxHeartbeats 3200000 in
set_option maxRecDepth 100000 in
theorem unitWords_any (w : World) : Calls Tryz.prog 155 #[] w fun e w' => e = .returned (.slice (some ⟨w.heap.size, 0, none⟩) 4 4) ∧ w' = w.alloc (.cells #[.string ⟨#[100, 97, 121]⟩, .string ⟨#[119, 101, 101, 107]⟩, .string ⟨#[109, 111, 110, 116, 104]⟩, .string ⟨#[121, 101, 97, 114]⟩] 9) := by
  go_enter Tryz.func155, Tryz.ntmps155
  go_wp2
  go_returns
  exact ⟨rfl, rfl⟩
theorem unitsL_index (g : Nat) (y : ByteArray) (w : World) (hg : g = w.heap.size) :
    Calls Tryz.prog 98 #[.slice (some ⟨g, 0, none⟩) 4 4, .string y] (w.alloc (.cells #[.string ⟨#[100, 97, 121]⟩, .string ⟨#[119, 101, 101, 107]⟩, .string ⟨#[109, 111, 110, 116, 104]⟩, .string ⟨#[121, 101, 97, 114]⟩] 9)) fun e w' => e = .returned (.int .i64 (Lib.idxOfS unitsL y)) ∧ w' = w.alloc (.cells #[.string ⟨#[100, 97, 121]⟩, .string ⟨#[119, 101, 101, 107]⟩, .string ⟨#[109, 111, 110, 116, 104]⟩, .string ⟨#[121, 101, 97, 114]⟩] 9) := by
  subst hg
  refine Tryz.indexS_any w.heap.size 0 4 unitsL y _ (by decide) fun k hk => ?_
  rw [Nat.zero_add, (Blk.new w 9 #[.string ⟨#[100, 97, 121]⟩, .string ⟨#[119, 101, 101, 107]⟩, .string ⟨#[109, 111, 110, 116, 104]⟩, .string ⟨#[121, 101, 97, 114]⟩]).cell k]
  have hk2 : k < 4 := hk
  match k, hk2 with
  | 0, _ => rfl
  | 1, _ => rfl
  | 2, _ => rfl
  | 3, _ => rfl

set_option maxHeartbeats 3200000 in
set_option maxRecDepth 100000 in
theorem weekdayWords_any (w : World) : Calls Tryz.prog 99 #[] w fun e w' => e = .returned (.slice (some ⟨w.heap.size, 0, none⟩) 7 7) ∧ w' = w.alloc (.cells #[.string ⟨#[109, 111, 110]⟩, .string ⟨#[116, 117, 101]⟩, .string ⟨#[119, 101, 100]⟩, .string ⟨#[116, 104, 117]⟩, .string ⟨#[102, 114, 105]⟩, .string ⟨#[115, 97, 116]⟩, .string ⟨#[115, 117, 110]⟩] 9) := by
  go_enter Tryz.func99, Tryz.ntmps99
  go_wp2
  go_returns
  exact ⟨rfl, rfl⟩
theorem wdaysL_index (g : Nat) (y : ByteArray) (w : World) (hg : g = w.heap.size) :
    Calls Tryz.prog 98 #[.slice (some ⟨g, 0, none⟩) 7 7, .string y] (w.alloc (.cells #[.string ⟨#[109, 111, 110]⟩, .string ⟨#[116, 117, 101]⟩, .string ⟨#[119, 101, 100]⟩, .string ⟨#[116, 104, 117]⟩, .string ⟨#[102, 114, 105]⟩, .string ⟨#[115, 97, 116]⟩, .string ⟨#[115, 117, 110]⟩] 9)) fun e w' => e = .returned (.int .i64 (Lib.idxOfS wdaysL y)) ∧ w' = w.alloc (.cells #[.string ⟨#[109, 111, 110]⟩, .string ⟨#[116, 117, 101]⟩, .string ⟨#[119, 101, 100]⟩, .string ⟨#[116, 104, 117]⟩, .string ⟨#[102, 114, 105]⟩, .string ⟨#[115, 97, 116]⟩, .string ⟨#[115, 117, 110]⟩] 9) := by
  subst hg
  refine Tryz.indexS_any w.heap.size 0 7 wdaysL y _ (by decide) fun k hk => ?_
  rw [Nat.zero_add, (Blk.new w 9 #[.string ⟨#[109, 111, 110]⟩, .string ⟨#[116, 117, 101]⟩, .string ⟨#[119, 101, 100]⟩, .string ⟨#[116, 104, 117]⟩, .string ⟨#[102, 114, 105]⟩, .string ⟨#[115, 97, 116]⟩, .string ⟨#[115, 117, 110]⟩]).cell k]
  have hk2 : k < 7 := hk
  match k, hk2 with
  | 0, _ => rfl
  | 1, _ => rfl
  | 2, _ => rfl
  | 3, _ => rfl
  | 4, _ => rfl
  | 5, _ => rfl
  | 6, _ => rfl

theorem at1_no {l : List ByteArray} {x : ByteArray} (h : Lib.idxOfS l x < 0) : at1 l x = none := if_pos h
theorem at1_yes {l : List ByteArray} {x : ByteArray} (h : 0 ≤ Lib.idxOfS l x) : at1 l x = some (Lib.idxOfS l x) := if_neg (by omega)
/-- What unit takes, whichever the word. -/
theorem un_cases (ev : Int) (x : ByteArray) :
    (ev = 1 ∧ ((Lib.idxOfS unitsL x < 0 ∧ un ev x = none) ∨ (0 ≤ Lib.idxOfS unitsL x ∧ un ev x = some (Lib.idxOfS unitsL x + 1)))) ∨
    (ev ≠ 1 ∧ ((hasS x wS = false ∧ un ev x = none) ∨ (hasS x wS = true ∧ ((Lib.idxOfS unitsL (cutS x wS) < 0 ∧ un ev x = none) ∨ (0 ≤ Lib.idxOfS unitsL (cutS x wS) ∧ un ev x = some (Lib.idxOfS unitsL (cutS x wS) + 1)))))) := by
  unfold un
  by_cases he : ev = 1
  · rw [if_pos he]
    refine .inl ⟨he, ?_⟩
    rcases (by omega : Lib.idxOfS unitsL x < 0 ∨ 0 ≤ Lib.idxOfS unitsL x) with h | h
    · exact .inl ⟨h, by rw [at1_no h]; rfl⟩
    · exact .inr ⟨h, by rw [at1_yes h]; rfl⟩
  · rw [if_neg he]
    refine .inr ⟨he, ?_⟩
    cases hs : hasS x wS with
    | false => exact .inl ⟨rfl, if_neg (by decide)⟩
    | true =>
      rw [if_pos rfl]
      refine .inr ⟨rfl, ?_⟩
      rcases (by omega : Lib.idxOfS unitsL (cutS x wS) < 0 ∨ 0 ≤ Lib.idxOfS unitsL (cutS x wS)) with h | h
      · exact .inl ⟨h, by rw [at1_no h]; rfl⟩
      · exact .inr ⟨h, by rw [at1_yes h]; rfl⟩
theorem idx_ge (l : List ByteArray) (x : ByteArray) : -1 ≤ Lib.idxOfS l x := by
  rcases Classical.em (x ∈ l) with h | h
  · have := (Lib.containsS_iff l x).2 h
    unfold Lib.containsS at this
    have := of_decide_eq_true this
    omega
  · rw [← List.take_length (l := l), Lib.idxOfS_miss l l.length x (fun j hj e => h (by
      rw [← e, List.getD_eq_getElem?_getD, List.getElem?_eq_getElem hj]
      exact List.getElem_mem hj))]
    omega
theorem idx_le (l : List ByteArray) (x : ByteArray) : Lib.idxOfS l x ≤ l.length := by
  rcases Classical.em (x ∈ l) with h | h
  · obtain ⟨k, hk, he, hn⟩ := first_at h
    have e := Lib.idxOfS_hit l l.length k x hk (Nat.le_refl _) he hn
    rw [List.take_length] at e
    rw [e]
    omega
  · have e := Lib.idxOfS_miss l l.length x (fun j hj e => h (by
      rw [← e, List.getD_eq_getElem?_getD, List.getElem?_eq_getElem hj]
      exact List.getElem_mem hj))
    rw [List.take_length] at e
    rw [e]
    omega

set_option maxHeartbeats 3200000 in
set_option maxRecDepth 100000 in
theorem unit_any (ev : Int) (p B : Nat) (L : List ByteArray) (f : Bool) (w : World) (h : Rd 64 w p B L f) :
    Calls Tryz.prog 90 #[.pointer (some ⟨p, 0, none⟩), .int .i64 ev] w fun e w' => ∃ k, e = .returned (.int .i64 k) ∧ Rd 64 w' p B L.tail (f || (rdO (un ev) L).isNone) ∧ Trn p w w' ∧ ∀ n, rdO (un ev) L = some n → k = n := by
  have hn := next_any p B L f w h
  have hsz : (L.headD ⟨#[]⟩).size ≤ 2000 := by
    cases L with
    | nil => decide
    | cons x r => exact h.sz x (by simp)
  have hfl : (f || (rdO (un ev) L).isNone) = ((f || L.isEmpty) || (un ev (L.headD ⟨#[]⟩)).isNone) := by
    cases L with
    | nil => cases f <;> rfl
    | cons x r => cases f <;> rfl
  have hk : ∀ k : Int, (∀ n, un ev (L.headD ⟨#[]⟩) = some n → k = n) → ∀ n, rdO (un ev) L = some n → k = n := fun k hh n he => by
    cases L with
    | nil => cases he
    | cons x r => exact hh n he
  rw [hfl]
  have HK := hide hk
  clear h hfl hk
  generalize L.headD ⟨#[]⟩ = x at *
  generalize (f || L.isEmpty) = f1 at *
  generalize rdO (un ev) L = RO at *
  generalize L.tail = T at *
  have HN := hide hn
  have HC := hide (fun W => Tryz.cutSuffix_any x ⟨#[115]⟩ W (by omega))
  have hcs : (Lib.hasSuffix x.data.toList (⟨#[115]⟩ : ByteArray).data.toList) = hasS x wS := rfl
  have hct : (⟨(Lib.trimSuffix x.data.toList (⟨#[115]⟩ : ByteArray).data.toList).toArray⟩ : ByteArray) = cutS x wS := rfl
  rw [hcs, hct] at HC
  clear hn hcs hct hsz
  have hcases := un_cases ev x
  generalize un ev x = UO at *
  rcases hcases with ⟨rfl, ⟨hi, rfl⟩ | ⟨hi, rfl⟩⟩ | ⟨he, ⟨hs, rfl⟩ | ⟨hs, ⟨hi, rfl⟩ | ⟨hi, rfl⟩⟩⟩
  · have HI := hide (fun g W hg => unitsL_index g x W hg)
    have j1 := idx_le unitsL x
    have j2 := idx_ge unitsL x
    have j3 : (unitsL.length : Int) = 4 := rfl
    rw [j3] at j1
    generalize Lib.idxOfS unitsL x = I at *
    clear j3
    cases f1
    all_goals
      go_enter Tryz.func90, Tryz.ntmps90
      go_wp2_with (first | (go_at_call 95; with_reducible refine (HN.out).mono ?_; rintro e W1 ⟨rfl, hr1, ht1⟩; have HR1 := hide hr1; have HT1 := hide ht1; obtain ⟨⟨b, o, c, k1, -, -, -, -, -⟩, k7, k8, -⟩ := hr1; have c1 := k1.cell 1; simp only [List.getElem?_toArray, List.getElem?_cons_succ, List.getElem?_cons_zero] at c1; have z1 := k1.frozen 1; have hp1 := k1.lt; clear k1 k7 k8 ht1) | (go_at_call 108; with_reducible refine (HC.out _).mono ?_; rintro e w' ⟨rfl, rfl⟩) | (go_at_call 155; with_reducible refine (unitWords_any _).mono ?_; rintro e w' ⟨rfl, rfl⟩) | (go_at_call 98; with_reducible refine (HI.out _ _ (by simp only [World.size_setCell])).mono ?_; rintro e w' ⟨rfl, rfl⟩))
      go_returns
      exact ⟨_, rfl, (by show Rd _ _ _ _ _ true; repeat (first | with_reducible exact HR1.out | with_reducible apply Rd.flag | with_reducible refine Rd.below_ ?_ (bl_alloc (Below.refl _ _) _) | with_reducible refine Rd.below_ ?_ (bl_plus (Below.refl _ _)))), (by repeat (first | with_reducible exact HT1.out | with_reducible refine Trn.alloc ?_ _ | with_reducible refine Trn.plus ?_ _ _ | with_reducible refine Trn.set_ ?_ _)), HK.out _ (fun n h => by cases h)⟩
  · have HI := hide (fun g W hg => unitsL_index g x W hg)
    have j1 := idx_le unitsL x
    have hi2 : ¬ Lib.idxOfS unitsL x < 0 := by omega
    have j3 : (unitsL.length : Int) = 4 := rfl
    rw [j3] at j1
    generalize Lib.idxOfS unitsL x = I at *
    clear j3
    cases f1
    · go_enter Tryz.func90, Tryz.ntmps90
      go_wp2_with (first | (go_at_call 95; with_reducible refine (HN.out).mono ?_; rintro e W1 ⟨rfl, hr1, ht1⟩; have HR1 := hide hr1; have HT1 := hide ht1; obtain ⟨⟨b, o, c, k1, -, -, -, -, -⟩, k7, k8, -⟩ := hr1; have c1 := k1.cell 1; simp only [List.getElem?_toArray, List.getElem?_cons_succ, List.getElem?_cons_zero] at c1; have z1 := k1.frozen 1; have hp1 := k1.lt; clear k1 k7 k8 ht1) | (go_at_call 108; with_reducible refine (HC.out _).mono ?_; rintro e w' ⟨rfl, rfl⟩) | (go_at_call 155; with_reducible refine (unitWords_any _).mono ?_; rintro e w' ⟨rfl, rfl⟩) | (go_at_call 98; with_reducible refine (HI.out _ _ (by simp only [World.size_setCell])).mono ?_; rintro e w' ⟨rfl, rfl⟩))
      go_returns
      simp only [decide_eq_false (show ¬ I < 0 by omega)]
      exact ⟨_, rfl, (by show Rd _ _ _ _ _ false; repeat (first | with_reducible exact HR1.out | with_reducible apply Rd.flag | with_reducible refine Rd.below_ ?_ (bl_alloc (Below.refl _ _) _) | with_reducible refine Rd.below_ ?_ (bl_plus (Below.refl _ _)))), (by repeat (first | with_reducible exact HT1.out | with_reducible refine Trn.alloc ?_ _ | with_reducible refine Trn.plus ?_ _ _ | with_reducible refine Trn.set_ ?_ _)), HK.out _ (fun n h => by cases h; rfl)⟩
    · go_enter Tryz.func90, Tryz.ntmps90
      go_wp2_with (first | (go_at_call 95; with_reducible refine (HN.out).mono ?_; rintro e W1 ⟨rfl, hr1, ht1⟩; have HR1 := hide hr1; have HT1 := hide ht1; obtain ⟨⟨b, o, c, k1, -, -, -, -, -⟩, k7, k8, -⟩ := hr1; have c1 := k1.cell 1; simp only [List.getElem?_toArray, List.getElem?_cons_succ, List.getElem?_cons_zero] at c1; have z1 := k1.frozen 1; have hp1 := k1.lt; clear k1 k7 k8 ht1) | (go_at_call 108; with_reducible refine (HC.out _).mono ?_; rintro e w' ⟨rfl, rfl⟩) | (go_at_call 155; with_reducible refine (unitWords_any _).mono ?_; rintro e w' ⟨rfl, rfl⟩) | (go_at_call 98; with_reducible refine (HI.out _ _ (by simp only [World.size_setCell])).mono ?_; rintro e w' ⟨rfl, rfl⟩))
      go_returns
      exact ⟨_, rfl, (by show Rd _ _ _ _ _ true; repeat (first | with_reducible exact HR1.out | with_reducible apply Rd.flag | with_reducible refine Rd.below_ ?_ (bl_alloc (Below.refl _ _) _) | with_reducible refine Rd.below_ ?_ (bl_plus (Below.refl _ _)))), (by repeat (first | with_reducible exact HT1.out | with_reducible refine Trn.alloc ?_ _ | with_reducible refine Trn.plus ?_ _ _ | with_reducible refine Trn.set_ ?_ _)), HK.out _ (fun n h => by cases h; rfl)⟩
  · have he1 : (ev != 1) = true := bne_iff_ne.2 he
    have HI := hide (fun g W hg => unitsL_index g (cutS x wS) W hg)
    have j1 := idx_le unitsL (cutS x wS)
    have j2 := idx_ge unitsL (cutS x wS)
    have j3 : (unitsL.length : Int) = 4 := rfl
    rw [j3] at j1
    rw [hs] at HC
    generalize Lib.idxOfS unitsL (cutS x wS) = I at *
    generalize cutS x wS = X at *
    clear j3 hs
    cases f1
    all_goals
      go_enter Tryz.func90, Tryz.ntmps90
      go_wp2_with (first | (go_at_call 95; with_reducible refine (HN.out).mono ?_; rintro e W1 ⟨rfl, hr1, ht1⟩; have HR1 := hide hr1; have HT1 := hide ht1; obtain ⟨⟨b, o, c, k1, -, -, -, -, -⟩, k7, k8, -⟩ := hr1; have c1 := k1.cell 1; simp only [List.getElem?_toArray, List.getElem?_cons_succ, List.getElem?_cons_zero] at c1; have z1 := k1.frozen 1; have hp1 := k1.lt; clear k1 k7 k8 ht1) | (go_at_call 108; with_reducible refine (HC.out _).mono ?_; rintro e w' ⟨rfl, rfl⟩) | (go_at_call 155; with_reducible refine (unitWords_any _).mono ?_; rintro e w' ⟨rfl, rfl⟩) | (go_at_call 98; with_reducible refine (HI.out _ _ (by simp only [World.size_setCell])).mono ?_; rintro e w' ⟨rfl, rfl⟩))
      go_returns
      exact ⟨_, rfl, (by show Rd _ _ _ _ _ true; repeat (first | with_reducible exact HR1.out | with_reducible apply Rd.flag | with_reducible refine Rd.below_ ?_ (bl_alloc (Below.refl _ _) _) | with_reducible refine Rd.below_ ?_ (bl_plus (Below.refl _ _)))), (by repeat (first | with_reducible exact HT1.out | with_reducible refine Trn.alloc ?_ _ | with_reducible refine Trn.plus ?_ _ _ | with_reducible refine Trn.set_ ?_ _)), HK.out _ (fun n h => by cases h)⟩
  · have he1 : (ev != 1) = true := bne_iff_ne.2 he
    have HI := hide (fun g W hg => unitsL_index g (cutS x wS) W hg)
    have j1 := idx_le unitsL (cutS x wS)
    have j2 := idx_ge unitsL (cutS x wS)
    have j3 : (unitsL.length : Int) = 4 := rfl
    rw [j3] at j1
    rw [hs] at HC
    generalize Lib.idxOfS unitsL (cutS x wS) = I at *
    generalize cutS x wS = X at *
    clear j3 hs
    cases f1
    · go_enter Tryz.func90, Tryz.ntmps90
      go_wp2_with (first | (go_at_call 95; with_reducible refine (HN.out).mono ?_; rintro e W1 ⟨rfl, hr1, ht1⟩; have HR1 := hide hr1; have HT1 := hide ht1; obtain ⟨⟨b, o, c, k1, -, -, -, -, -⟩, k7, k8, -⟩ := hr1; have c1 := k1.cell 1; simp only [List.getElem?_toArray, List.getElem?_cons_succ, List.getElem?_cons_zero] at c1; have z1 := k1.frozen 1; have hp1 := k1.lt; clear k1 k7 k8 ht1) | (go_at_call 108; with_reducible refine (HC.out _).mono ?_; rintro e w' ⟨rfl, rfl⟩) | (go_at_call 155; with_reducible refine (unitWords_any _).mono ?_; rintro e w' ⟨rfl, rfl⟩) | (go_at_call 98; with_reducible refine (HI.out _ _ (by simp only [World.size_setCell])).mono ?_; rintro e w' ⟨rfl, rfl⟩))
      go_returns
      exact ⟨_, rfl, (by show Rd _ _ _ _ _ true; repeat (first | with_reducible exact HR1.out | with_reducible apply Rd.flag | with_reducible refine Rd.below_ ?_ (bl_alloc (Below.refl _ _) _) | with_reducible refine Rd.below_ ?_ (bl_plus (Below.refl _ _)))), (by repeat (first | with_reducible exact HT1.out | with_reducible refine Trn.alloc ?_ _ | with_reducible refine Trn.plus ?_ _ _ | with_reducible refine Trn.set_ ?_ _)), HK.out _ (fun n h => by cases h)⟩
    · go_enter Tryz.func90, Tryz.ntmps90
      go_wp2_with (first | (go_at_call 95; with_reducible refine (HN.out).mono ?_; rintro e W1 ⟨rfl, hr1, ht1⟩; have HR1 := hide hr1; have HT1 := hide ht1; obtain ⟨⟨b, o, c, k1, -, -, -, -, -⟩, k7, k8, -⟩ := hr1; have c1 := k1.cell 1; simp only [List.getElem?_toArray, List.getElem?_cons_succ, List.getElem?_cons_zero] at c1; have z1 := k1.frozen 1; have hp1 := k1.lt; clear k1 k7 k8 ht1) | (go_at_call 108; with_reducible refine (HC.out _).mono ?_; rintro e w' ⟨rfl, rfl⟩) | (go_at_call 155; with_reducible refine (unitWords_any _).mono ?_; rintro e w' ⟨rfl, rfl⟩) | (go_at_call 98; with_reducible refine (HI.out _ _ (by simp only [World.size_setCell])).mono ?_; rintro e w' ⟨rfl, rfl⟩))
      go_returns
      exact ⟨_, rfl, (by show Rd _ _ _ _ _ true; repeat (first | with_reducible exact HR1.out | with_reducible apply Rd.flag | with_reducible refine Rd.below_ ?_ (bl_alloc (Below.refl _ _) _) | with_reducible refine Rd.below_ ?_ (bl_plus (Below.refl _ _)))), (by repeat (first | with_reducible exact HT1.out | with_reducible refine Trn.alloc ?_ _ | with_reducible refine Trn.plus ?_ _ _ | with_reducible refine Trn.set_ ?_ _)), HK.out _ (fun n h => by cases h)⟩
  · have he1 : (ev != 1) = true := bne_iff_ne.2 he
    have HI := hide (fun g W hg => unitsL_index g (cutS x wS) W hg)
    have j1 := idx_le unitsL (cutS x wS)
    have hi2 : ¬ Lib.idxOfS unitsL (cutS x wS) < 0 := by omega
    have j3 : (unitsL.length : Int) = 4 := rfl
    rw [j3] at j1
    rw [hs] at HC
    generalize Lib.idxOfS unitsL (cutS x wS) = I at *
    generalize cutS x wS = X at *
    clear j3 hs
    cases f1
    · go_enter Tryz.func90, Tryz.ntmps90
      go_wp2_with (first | (go_at_call 95; with_reducible refine (HN.out).mono ?_; rintro e W1 ⟨rfl, hr1, ht1⟩; have HR1 := hide hr1; have HT1 := hide ht1; obtain ⟨⟨b, o, c, k1, -, -, -, -, -⟩, k7, k8, -⟩ := hr1; have c1 := k1.cell 1; simp only [List.getElem?_toArray, List.getElem?_cons_succ, List.getElem?_cons_zero] at c1; have z1 := k1.frozen 1; have hp1 := k1.lt; clear k1 k7 k8 ht1) | (go_at_call 108; with_reducible refine (HC.out _).mono ?_; rintro e w' ⟨rfl, rfl⟩) | (go_at_call 155; with_reducible refine (unitWords_any _).mono ?_; rintro e w' ⟨rfl, rfl⟩) | (go_at_call 98; with_reducible refine (HI.out _ _ (by simp only [World.size_setCell])).mono ?_; rintro e w' ⟨rfl, rfl⟩))
      go_returns
      simp only [decide_eq_false (show ¬ I < 0 by omega)]
      exact ⟨_, rfl, (by show Rd _ _ _ _ _ false; repeat (first | with_reducible exact HR1.out | with_reducible apply Rd.flag | with_reducible refine Rd.below_ ?_ (bl_alloc (Below.refl _ _) _) | with_reducible refine Rd.below_ ?_ (bl_plus (Below.refl _ _)))), (by repeat (first | with_reducible exact HT1.out | with_reducible refine Trn.alloc ?_ _ | with_reducible refine Trn.plus ?_ _ _ | with_reducible refine Trn.set_ ?_ _)), HK.out _ (fun n h => by cases h; rfl)⟩
    · go_enter Tryz.func90, Tryz.ntmps90
      go_wp2_with (first | (go_at_call 95; with_reducible refine (HN.out).mono ?_; rintro e W1 ⟨rfl, hr1, ht1⟩; have HR1 := hide hr1; have HT1 := hide ht1; obtain ⟨⟨b, o, c, k1, -, -, -, -, -⟩, k7, k8, -⟩ := hr1; have c1 := k1.cell 1; simp only [List.getElem?_toArray, List.getElem?_cons_succ, List.getElem?_cons_zero] at c1; have z1 := k1.frozen 1; have hp1 := k1.lt; clear k1 k7 k8 ht1) | (go_at_call 108; with_reducible refine (HC.out _).mono ?_; rintro e w' ⟨rfl, rfl⟩) | (go_at_call 155; with_reducible refine (unitWords_any _).mono ?_; rintro e w' ⟨rfl, rfl⟩) | (go_at_call 98; with_reducible refine (HI.out _ _ (by simp only [World.size_setCell])).mono ?_; rintro e w' ⟨rfl, rfl⟩))
      go_returns
      exact ⟨_, rfl, (by show Rd _ _ _ _ _ true; repeat (first | with_reducible exact HR1.out | with_reducible apply Rd.flag | with_reducible refine Rd.below_ ?_ (bl_alloc (Below.refl _ _) _) | with_reducible refine Rd.below_ ?_ (bl_plus (Below.refl _ _)))), (by repeat (first | with_reducible exact HT1.out | with_reducible refine Trn.alloc ?_ _ | with_reducible refine Trn.plus ?_ _ _ | with_reducible refine Trn.set_ ?_ _)), HK.out _ (fun n h => by cases h; rfl)⟩

end Go.Proofs.YtjaoiehjhnmahaaGreatDoor
