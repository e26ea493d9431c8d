/-
  WALKS: Keep on bad input; the reference's search for a name.
-/
import Derived.Test.YtokghdcfbbogdaaKeepB
namespace Go.Proofs.Ytokghdcfbbogdaa
open Go.RowKit

set_option maxHeartbeats 3200000 in
set_option maxRecDepth 100000 in
theorem keepF_bad (A B : Option Addr) (c c2 : Nat) (xs : List St) (cs : List Cd) (w : World) (hA : StsAt w A xs) (h : statesErr xs ≠ 0) :
    Calls Try.prog 46 #[.slice A xs.length c, .slice B cs.length c2] w (KeepOut (keep xs (cs.map Cd.key)) w) := by
  have hR : keep xs (cs.map Cd.key) = (([], []), statesErr xs) := by unfold keep; rw [if_neg h]
  rw [hR]
  have hck := fun w h => checkStates_any A c xs w h
  generalize statesErr xs = r at hck h ⊢
  have hr : (r == 0) = false := by simp [h]
  have H1 := hide hck
  have HA := hide hA
  clear hck h hA hR
  go_enter Try.func46, Try.ntmps46
  go_wp2_with (go_at_call 48; refine (H1.out _ HA.out).mono ?_; rintro e w' ⟨rfl, hb⟩; obtain ⟨os1, n1, rfl⟩ := below_plus hb; clear hb)
  go_returns
  exact keepOut_err (by repeat (first | exact Below.refl _ _ | refine bl_plus ?_ | refine bl_alloc ?_ _ | refine bl_drew ?_))

set_option maxHeartbeats 3200000 in
set_option maxRecDepth 100000 in
theorem keepF_long (A B : Option Addr) (c c2 : Nat) (xs : List St) (cs : List Cd) (w : World) (hA : StsAt w A xs) (h : statesErr xs = 0) (hl : 5000 < cs.length) :
    Calls Try.prog 46 #[.slice A xs.length c, .slice B cs.length c2] w (KeepOut (keep xs (cs.map Cd.key)) w) := by
  have hR : keep xs (cs.map Cd.key) = (([], []), 4) := by unfold keep; rw [if_pos h, if_pos (by simpa using hl)]
  rw [hR]
  have hck := fun w h => checkStates_any A c xs w h
  rw [h] at hck
  have H1 := hide hck
  have HA := hide hA
  have hlz : (5000 : Int) < (cs.length : Int) := by omega
  clear hck h hA hR hl
  go_enter Try.func46, Try.ntmps46
  go_wp2_with (go_at_call 48; refine (H1.out _ HA.out).mono ?_; rintro e w' ⟨rfl, hb⟩; obtain ⟨os1, n1, rfl⟩ := below_plus hb; clear hb)
  go_returns
  exact keepOut_err (by repeat (first | exact Below.refl _ _ | refine bl_plus ?_ | refine bl_alloc ?_ _ | refine bl_drew ?_))

set_option maxHeartbeats 3200000 in
set_option maxRecDepth 100000 in
theorem keepOf_bad (A B : Option Addr) (c c2 : Nat) (xs : List St) (cs : List Cd) (w : World) (hA : StsAt w A xs) (h : statesErr xs ≠ 0) :
    Calls Try.prog 47 #[.slice A xs.length c, .slice B cs.length c2] w (KeepOut (keep xs (cs.map Cd.key)) w) := by
  have hR : keep xs (cs.map Cd.key) = (([], []), statesErr xs) := by unfold keep; rw [if_neg h]
  rw [hR]
  have hck := fun w h => statesFault_any A c xs w h
  generalize statesErr xs = r at hck h ⊢
  have hr : (r == 0) = false := by simp [h]
  have H1 := hide hck
  have HA := hide hA
  clear hck h hA hR
  go_enter Try.func47, Try.ntmps47
  go_wp2_with (go_at_call 49; refine (H1.out _ HA.out).mono ?_; rintro e w' ⟨rfl, hb⟩; obtain ⟨os1, n1, rfl⟩ := below_plus hb; clear hb)
  go_returns
  exact keepOut_err (by repeat (first | exact Below.refl _ _ | refine bl_plus ?_ | refine bl_alloc ?_ _ | refine bl_drew ?_))

set_option maxHeartbeats 3200000 in
set_option maxRecDepth 100000 in
theorem keepOf_long (A B : Option Addr) (c c2 : Nat) (xs : List St) (cs : List Cd) (w : World) (hA : StsAt w A xs) (h : statesErr xs = 0) (hl : 5000 < cs.length) :
    Calls Try.prog 47 #[.slice A xs.length c, .slice B cs.length c2] w (KeepOut (keep xs (cs.map Cd.key)) w) := by
  have hR : keep xs (cs.map Cd.key) = (([], []), 4) := by unfold keep; rw [if_pos h, if_pos (by simpa using hl)]
  rw [hR]
  have hck := fun w h => statesFault_any A c xs w h
  rw [h] at hck
  have H1 := hide hck
  have HA := hide hA
  have hlz : (5000 : Int) < (cs.length : Int) := by omega
  clear hck h hA hR hl
  go_enter Try.func47, Try.ntmps47
  go_wp2_with (go_at_call 49; refine (H1.out _ HA.out).mono ?_; rintro e w' ⟨rfl, hb⟩; obtain ⟨os1, n1, rfl⟩ := below_plus hb; clear hb)
  go_returns
  exact keepOut_err (by repeat (first | exact Below.refl _ _ | refine bl_plus ?_ | refine bl_alloc ?_ _ | refine bl_drew ?_))

theorem keepF_any (A B : Option Addr) (c c2 : Nat) (xs : List St) (cs : List Cd) (w : World) (hA : StsAt w A xs) (hB : CdsAt w B cs) :
    Calls Try.prog 46 #[.slice A xs.length c, .slice B cs.length c2] w (KeepOut (keep xs (cs.map Cd.key)) w) := by
  by_cases h : statesErr xs = 0
  · by_cases hl : cs.length ≤ 5000
    · rw [keep_eq h (by simpa using hl)]; exact keepF_ok A B c c2 xs cs w hA hB h hl
    · exact keepF_long A B c c2 xs cs w hA h (by omega)
  · exact keepF_bad A B c c2 xs cs w hA h

theorem nameCmp_zero (a b c d : Int) : (nameCmp a b c d == 0) = decide ((c, d) = (a, b)) := by
  unfold nameCmp or2 cmp3
  by_cases h1 : a < c
  · have : ¬ c = a := by omega
    simp [h1, this]
  · by_cases h2 : c < a
    · have : ¬ c = a := by omega
      simp [h1, h2, this]
    · have h3 : a = c := by omega
      subst h3
      by_cases h4 : b < d
      · have : ¬ d = b := by omega
        simp [h4, this]
      · by_cases h5 : d < b
        · have : ¬ d = b := by omega
          simp [h4, h5, this]
        · have h6 : b = d := by omega
          subst h6; simp

set_option maxHeartbeats 3200000 in
set_option maxRecDepth 100000 in
theorem keepIs_any (x y : St) (g : Nat) (w : World) (hg : StCells w g 0 x) (hgl : g < w.heap.size) :
    Calls Try.prog 87 #[y.val, .pointer (some ⟨g, 0, none⟩)] w fun e w' => e = .returned (.bool (named (x.bl, x.no) y)) ∧ Below w.heap.size w w' := by
  have ho := fun w => order_any x y w
  have hz := nameCmp_zero x.bl x.no y.bl y.no
  have hn : named (x.bl, x.no) y = decide ((y.bl, y.no) = (x.bl, x.no)) := rfl
  rw [hn, ← hz]
  clear hn hz
  simp only [St.val] at ho ⊢
  have HO := hide ho
  obtain ⟨c0, c1, c2, c3, c4, c5, c6, c7, c8⟩ := hg
  simp only [Nat.zero_add] at c0 c1 c2 c3 c4 c5 c6 c7 c8
  clear ho
  go_enter Try.func87, Try.ntmps87
  go_wp2_with (go_at_call 83; refine (HO.out _).mono ?_; rintro e w' ⟨rfl, hb⟩; obtain ⟨os1, n1, rfl⟩ := below_plus hb; clear hb)
  go_ret
  exact ⟨rfl, (by repeat (first | exact Below.refl _ _ | refine bl_plus ?_ | refine bl_alloc ?_ _ | refine bl_drew ?_))⟩

set_option maxHeartbeats 3200000 in
set_option maxRecDepth 100000 in
theorem indexNamed_any (A : Option Addr) (c : Nat) (xs : List St) (x : St) (g : Nat) (w : World) (hA : StsAt w A xs) (hg : StCells w g 0 x) (hgl : g < w.heap.size) (hl : xs.length ≤ 5000) :
    Calls Try.prog 81 #[.slice A xs.length c, .func (.func 87) #[] #[.pointer (some ⟨g, 0, none⟩)]] w fun e w' =>
      (∃ z : Int, e = .returned (.int .i64 z) ∧ ((z = -1 ∧ xs.find? (named (x.bl, x.no)) = none) ∨ ∃ (i : Nat) (h : i < xs.length), z = (i : Int) ∧ xs.find? (named (x.bl, x.no)) = some xs[i])) ∧ Below w.heap.size w w' := by
  have HA := hide hA
  have HG := hide hg
  have hki := fun y w hg hgl => keepIs_any x y g w hg hgl
  have HKI := hide hki
  generalize hkey : (x.bl, x.no) = key at *
  clear hkey hA hg hki
  go_enter Try.func81, Try.ntmps81
  go_wp2
  go_loopw [8] (fun i wr => ∃ (k : Nat) (os : Array Obj) (n : Nat), k ≤ xs.length ∧ i = .int .i64 k ∧ Hid (xs.find? (named key) = (xs.drop k).find? (named key)) ∧ wr = plus w os n) (fun i _ => xs.length - (intOf i).toNat)
  case atStart => exact ⟨0, #[], _, Nat.zero_le _, rfl, rfl, plus_nil.symm⟩
  case round =>
    obtain ⟨k, os, n, hk, rfl, HJ, rfl⟩ := hrel
    by_cases hlt : k < xs.length
    · obtain ⟨b, off, rfl, hb, hcell⟩ := HA.out (by omega)
      obtain ⟨c0, c1, c2, c3, c4, c5, c6, c7, c8⟩ := hcell k hlt
      have hd := drop_cons xs k hlt
      have hgp : Hid (StCells (plus w os n) g 0 x) := HG.out.keep fun i => plus_cell hgl
      clear hcell
      have hxk : ∃ y, y = xs[k] := ⟨_, rfl⟩
      obtain ⟨y, hy⟩ := hxk
      rw [← hy] at c0 c1 c2 c3 c4 c5 c6 c7 c8 hd
      have hkk := hide (HKI.out y (plus w os n) hgp.out (by rw [plus_size]; omega))
      simp only [St.val] at hkk
      have HD := hide hd
      have HY := hide hy
      clear hd hy
      cases hn : named key y with
      | true =>
        have HF : Hid (xs.find? (named key) = some xs[k]) := by show _ = _; rw [HJ.out, HD.out, List.find?_cons_of_pos hn, HY.out]
        rw [hn] at hkk
        clear hn
        go_wp2_with (go_at_call 87; refine hkk.out.mono ?_; rintro e w' ⟨rfl, hb⟩; obtain ⟨os1, n1, rfl⟩ := below_plus hb; clear hb)
        go_returns
        exact ⟨⟨(k : Int), rfl, .inr ⟨k, hlt, rfl, HF.out⟩⟩, (by repeat (first | exact Below.refl _ _ | refine bl_plus ?_ | refine bl_alloc ?_ _ | refine bl_drew ?_))⟩
      | false =>
        have HF : Hid (xs.find? (named key) = (xs.drop (k + 1)).find? (named key)) := by show _ = _; rw [HJ.out, HD.out, List.find?_cons_of_neg (by simp [hn])]
        rw [hn] at hkk
        clear hn
        go_wp2_with (go_at_call 87; refine hkk.out.mono ?_; rintro e w' ⟨rfl, hb⟩; obtain ⟨os1, n1, rfl⟩ := below_plus hb; clear hb)
        go_roundw
        case rel => exact ⟨k + 1, _, _, hlt, by go_num, HF.out, by rw [plus_plus]⟩
        case measure => simp [intOf]; omega
    · have HF : Hid (xs.find? (named key) = none) := by show _ = _; rw [HJ.out, List.drop_eq_nil_of_le (by omega)]; rfl
      go_wp2
      go_returns
      exact ⟨⟨-1, rfl, .inl ⟨rfl, HF.out⟩⟩, (by repeat (first | exact Below.refl _ _ | refine bl_plus ?_ | refine bl_alloc ?_ _ | refine bl_drew ?_))⟩

end Go.Proofs.Ytokghdcfbbogdaa
