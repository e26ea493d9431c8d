/-
  WALKS: Leeches and the reference's.
-/
import Derived.Test.YtokghdcfbbogdaaPick
import Derived.Test.YtokghdcfbbogdaaInts
namespace Go.Proofs.Ytokghdcfbbogdaa
open Go.RowKit

/-- What a function that makes a list of numbers hands back. -/
def IntsOut (r : List Int × Int) (w : World) (e : Ending) (w' : World) : Prop :=
  ∃ A c, e = .returned (.tuple #[.slice A r.1.length c, .int .i64 r.2]) ∧ r.1.length ≤ c ∧ IntsAt w' A r.1 ∧ Below w.heap.size w w'
theorem intsOut_err {r : Int} {w w' : World} (hb : Below w.heap.size w w') : IntsOut ([], r) w (.returned (.tuple #[.slice none 0 0, .int .i64 r])) w' := ⟨none, 0, rfl, Nat.le_refl _, IntsAt.nil, hb⟩
theorem intsOut_ok {A : Option Addr} {n c : Nat} {d : Int} {ns : List Int} {w w' : World} {e : Ending} (he : e = .returned (.tuple #[.slice A n c, .int .i64 d])) (hn : ns.length = n) (hc : n ≤ c) (hs : IntsAt w' A ns) (hb : Below w.heap.size w w') : IntsOut (ns, d) w e w' := by
  subst hn; exact ⟨A, c, he, hc, hs, hb⟩

set_option maxHeartbeats 400000 in
theorem clipInts_any (A : Option Addr) (n c : Nat) (w : World) (h : n ≤ c) :
    Calls Try.prog 72 #[.slice A n c] w fun e w' => e = .returned (.slice A n n) ∧ w = w' := by
  go_enter Try.func72, Try.ntmps72
  go_wp2
  go_ret
  exact ⟨rfl, rfl⟩

set_option maxHeartbeats 1600000 in
set_option maxRecDepth 100000 in
theorem leechesOf_ok (A : Option Addr) (c : Nat) (xs : List St) (m : Int) (w : World) (hA : StsAt w A xs) (h : statesErr xs = 0) (hm : 1 ≤ m) :
    Calls Try.prog 32 #[.slice A xs.length c, .int .i64 m] w (IntsOut (leeches xs m) w) := by
  have hck := fun w h => statesFault_any A c xs w h
  have hl := len_of_statesErr h
  have hR : leeches xs m = (pick (fun x => decide (m ≤ x.lp)) xs xs.length, 0) := by unfold leeches; rw [if_pos h, if_neg (by omega)]
  rw [hR]
  rw [h] at hck
  have H1 := hide hck
  have HA := hide hA
  clear hck hR h hA
  generalize hPP : (fun x : St => decide (m ≤ x.lp)) = P
  have HP := hide hPP
  clear hPP
  go_enter Try.func32, Try.ntmps32
  go_wp2_with ((go_at_call 49; refine (H1.out _ HA.out).mono ?_; rintro e w' ⟨rfl, hb⟩; obtain ⟨os1, n1, rfl⟩ := below_plus hb; clear hb))
  go_loopw [7, 19] (fun v i wr => ∃ (k : Nat) (os : Array Obj) (n : Nat), k ≤ xs.length ∧ i = .int .i64 k ∧ wr = plus w os n ∧ wr.ownsRow w.heap.size 3 1 v (pick P xs k).length ((pick P xs k).map (Value.int .i64)))
    (fun _ i _ => xs.length - (intOf i).toNat)
  case atStart => exact ⟨0, _, _, Nat.zero_le _, rfl, rfl, own_none⟩
  case round =>
    obtain ⟨k, os, n, hk, rfl, rfl, hown⟩ := hrel
    by_cases hlt : k < xs.length
    · obtain ⟨b, off, rfl, hb, hcell⟩ := HA.out (by omega)
      have hxk : xs[k]? = some xs[k] := List.getElem?_eq_getElem hlt
      have hc0 := hcell k hlt
      clear hcell
      generalize xs[k] = x at hc0 hxk
      obtain ⟨c0, c1, c2, c3, c4, c5, c6, c7, c8⟩ := hc0
      have HX := hide hxk
      have hpl := pick_le P xs k
      clear hxk
      by_cases hp : m ≤ x.lp
      · go_wp2_with ((at_builtin; refine wpList_append_int rfl (.tmp 28) (.tmp 30) rfl w.heap.size _ _ (pick P xs k) _ _ rfl (hown.alloc _) rfl (by simp [plus_size]) (by omega) (by simp [plus_size]; omega) ?_; intro v' w1 hown1 hb1; obtain ⟨os3, n3, rfl⟩ := over_plus (L := w) rfl (by repeat (first | exact Below.refl _ _ | refine bl_plus ?_ | refine bl_alloc ?_ _ | refine bl_drew ?_)) hb1; clear hb1))
        go_roundw
        case rel => exact ⟨k + 1, _, _, hlt, by go_num, rfl, by rw [pick_yes HX.out (by rw [← HP.out]; simpa using hp)]; simpa using hown1⟩
        case measure => simp [intOf]; omega
      · go_wp2
        go_roundw
        case rel => exact ⟨k + 1, _, _, hlt, by go_num, by rw [plus_alloc], by rw [pick_no HX.out (by rw [← HP.out]; simpa using hp)]; exact hown.alloc _⟩
        case measure => simp [intOf]; omega
    · have hkl : k = xs.length := by omega
      subst hkl
      obtain ⟨B, c', rfl, hnc, _, _⟩ := own_form hown
      have hI := intsAt_of_own hown
      have HI := hide hI
      clear hI hown
      go_wp2
      go_returns
      exact intsOut_ok rfl rfl (by first | assumption | exact Nat.le_refl _) HI.out (by repeat (first | exact Below.refl _ _ | refine bl_plus ?_ | refine bl_alloc ?_ _ | refine bl_drew ?_))

set_option maxHeartbeats 1600000 in
set_option maxRecDepth 100000 in
theorem leechesOf_low (A : Option Addr) (c : Nat) (xs : List St) (m : Int) (w : World) (hA : StsAt w A xs) (h : statesErr xs = 0) (hm : m < 1) :
    Calls Try.prog 32 #[.slice A xs.length c, .int .i64 m] w (IntsOut (leeches xs m) w) := by
  have hck := fun w h => statesFault_any A c xs w h
  have hR : leeches xs m = ([], 2) := by unfold leeches; rw [if_pos h, if_pos hm]
  rw [hR]
  rw [h] at hck
  have H1 := hide hck
  have HA := hide hA
  clear hck hR h hA
  go_enter Try.func32, Try.ntmps32
  go_wp2_with ((go_at_call 49; refine (H1.out _ HA.out).mono ?_; rintro e w' ⟨rfl, hb⟩; obtain ⟨os1, n1, rfl⟩ := below_plus hb; clear hb))
  go_returns
  exact intsOut_err (by repeat (first | exact Below.refl _ _ | refine bl_plus ?_ | refine bl_alloc ?_ _ | refine bl_drew ?_))

set_option maxHeartbeats 1600000 in
set_option maxRecDepth 100000 in
theorem leechesOf_bad (A : Option Addr) (c : Nat) (xs : List St) (m : Int) (w : World) (hA : StsAt w A xs) (h : statesErr xs ≠ 0) :
    Calls Try.prog 32 #[.slice A xs.length c, .int .i64 m] w (IntsOut (leeches xs m) w) := by
  have hck := fun w h => statesFault_any A c xs w h
  have hR : leeches xs m = ([], statesErr xs) := by unfold leeches; rw [if_neg h]
  rw [hR]
  clear hR
  generalize statesErr xs = r at hck h ⊢
  have hr : (r == 0) = false := by simp [h]
  have H1 := hide hck
  have HA := hide hA
  clear hck h hA
  go_enter Try.func32, Try.ntmps32
  go_wp2_with ((go_at_call 49; refine (H1.out _ HA.out).mono ?_; rintro e w' ⟨rfl, hb⟩; obtain ⟨os1, n1, rfl⟩ := below_plus hb; clear hb))
  go_returns
  exact intsOut_err (by repeat (first | exact Below.refl _ _ | refine bl_plus ?_ | refine bl_alloc ?_ _ | refine bl_drew ?_))

theorem leechesOf_any (A : Option Addr) (c : Nat) (xs : List St) (m : Int) (w : World) (hA : StsAt w A xs) :
    Calls Try.prog 32 #[.slice A xs.length c, .int .i64 m] w (IntsOut (leeches xs m) w) := by
  by_cases h : statesErr xs = 0
  · by_cases hm : m < 1
    · exact leechesOf_low A c xs m w hA h hm
    · exact leechesOf_ok A c xs m w hA h (by omega)
  · exact leechesOf_bad A c xs m w hA h

set_option maxHeartbeats 1600000 in
set_option maxRecDepth 100000 in
theorem leeches_ok (A : Option Addr) (c : Nat) (xs : List St) (m : Int) (w : World) (hA : StsAt w A xs) (h : statesErr xs = 0) (hm : 1 ≤ m) :
    Calls Try.prog 31 #[.slice A xs.length c, .int .i64 m] w (IntsOut (leeches xs m) w) := by
  have hck := fun w h => checkStates_any A c xs w h
  have hl := len_of_statesErr h
  have hR : leeches xs m = (pick (fun x => decide (m ≤ x.lp)) xs xs.length, 0) := by unfold leeches; rw [if_pos h, if_neg (by omega)]
  rw [hR]
  rw [h] at hck
  have H1 := hide hck
  have HA := hide hA
  clear hck hR h hA
  generalize hPP : (fun x : St => decide (m ≤ x.lp)) = P
  have HP := hide hPP
  clear hPP
  go_enter Try.func31, Try.ntmps31
  go_wp2_with ((go_at_call 48; refine (H1.out _ HA.out).mono ?_; rintro e w' ⟨rfl, hb⟩; obtain ⟨os1, n1, rfl⟩ := below_plus hb; clear hb))
  go_loopw [7, 19] (fun v i wr => ∃ (k : Nat) (os : Array Obj) (n : Nat), k ≤ xs.length ∧ i = .int .i64 k ∧ wr = plus w os n ∧ wr.ownsRow w.heap.size 3 1 v (pick P xs k).length ((pick P xs k).map (Value.int .i64)))
    (fun _ i _ => xs.length - (intOf i).toNat)
  case atStart => exact ⟨0, _, _, Nat.zero_le _, rfl, rfl, own_none⟩
  case round =>
    obtain ⟨k, os, n, hk, rfl, rfl, hown⟩ := hrel
    by_cases hlt : k < xs.length
    · obtain ⟨b, off, rfl, hb, hcell⟩ := HA.out (by omega)
      have hxk : xs[k]? = some xs[k] := List.getElem?_eq_getElem hlt
      have hc0 := hcell k hlt
      clear hcell
      generalize xs[k] = x at hc0 hxk
      obtain ⟨c0, c1, c2, c3, c4, c5, c6, c7, c8⟩ := hc0
      have HX := hide hxk
      have hpl := pick_le P xs k
      clear hxk
      by_cases hp : m ≤ x.lp
      · go_wp2_with ((at_builtin; refine wpList_append_int rfl (.tmp 28) (.tmp 30) rfl w.heap.size _ _ (pick P xs k) _ _ rfl (hown.alloc _) rfl (by simp [plus_size]) (by omega) (by simp [plus_size]; omega) ?_; intro v' w1 hown1 hb1; obtain ⟨os3, n3, rfl⟩ := over_plus (L := w) rfl (by repeat (first | exact Below.refl _ _ | refine bl_plus ?_ | refine bl_alloc ?_ _ | refine bl_drew ?_)) hb1; clear hb1))
        go_roundw
        case rel => exact ⟨k + 1, _, _, hlt, by go_num, rfl, by rw [pick_yes HX.out (by rw [← HP.out]; simpa using hp)]; simpa using hown1⟩
        case measure => simp [intOf]; omega
      · go_wp2
        go_roundw
        case rel => exact ⟨k + 1, _, _, hlt, by go_num, by rw [plus_alloc], by rw [pick_no HX.out (by rw [← HP.out]; simpa using hp)]; exact hown.alloc _⟩
        case measure => simp [intOf]; omega
    · have hkl : k = xs.length := by omega
      subst hkl
      obtain ⟨B, c', rfl, hnc, _, _⟩ := own_form hown
      have hI := intsAt_of_own hown
      have HI := hide hI
      clear hI hown
      go_wp2_with ((go_at_call 72; refine (clipInts_any _ _ _ _ (by assumption)).mono ?_; rintro e w' ⟨rfl, rfl⟩))
      go_returns
      exact intsOut_ok rfl rfl (by first | assumption | exact Nat.le_refl _) HI.out (by repeat (first | exact Below.refl _ _ | refine bl_plus ?_ | refine bl_alloc ?_ _ | refine bl_drew ?_))

set_option maxHeartbeats 1600000 in
set_option maxRecDepth 100000 in
theorem leeches_low (A : Option Addr) (c : Nat) (xs : List St) (m : Int) (w : World) (hA : StsAt w A xs) (h : statesErr xs = 0) (hm : m < 1) :
    Calls Try.prog 31 #[.slice A xs.length c, .int .i64 m] w (IntsOut (leeches xs m) w) := by
  have hck := fun w h => checkStates_any A c xs w h
  have hR : leeches xs m = ([], 2) := by unfold leeches; rw [if_pos h, if_pos hm]
  rw [hR]
  rw [h] at hck
  have H1 := hide hck
  have HA := hide hA
  clear hck hR h hA
  go_enter Try.func31, Try.ntmps31
  go_wp2_with ((go_at_call 48; refine (H1.out _ HA.out).mono ?_; rintro e w' ⟨rfl, hb⟩; obtain ⟨os1, n1, rfl⟩ := below_plus hb; clear hb))
  go_returns
  exact intsOut_err (by repeat (first | exact Below.refl _ _ | refine bl_plus ?_ | refine bl_alloc ?_ _ | refine bl_drew ?_))

set_option maxHeartbeats 1600000 in
set_option maxRecDepth 100000 in
theorem leeches_bad (A : Option Addr) (c : Nat) (xs : List St) (m : Int) (w : World) (hA : StsAt w A xs) (h : statesErr xs ≠ 0) :
    Calls Try.prog 31 #[.slice A xs.length c, .int .i64 m] w (IntsOut (leeches xs m) w) := by
  have hck := fun w h => checkStates_any A c xs w h
  have hR : leeches xs m = ([], statesErr xs) := by unfold leeches; rw [if_neg h]
  rw [hR]
  clear hR
  generalize statesErr xs = r at hck h ⊢
  have hr : (r == 0) = false := by simp [h]
  have H1 := hide hck
  have HA := hide hA
  clear hck h hA
  go_enter Try.func31, Try.ntmps31
  go_wp2_with ((go_at_call 48; refine (H1.out _ HA.out).mono ?_; rintro e w' ⟨rfl, hb⟩; obtain ⟨os1, n1, rfl⟩ := below_plus hb; clear hb))
  go_returns
  exact intsOut_err (by repeat (first | exact Below.refl _ _ | refine bl_plus ?_ | refine bl_alloc ?_ _ | refine bl_drew ?_))

theorem leeches_any (A : Option Addr) (c : Nat) (xs : List St) (m : Int) (w : World) (hA : StsAt w A xs) :
    Calls Try.prog 31 #[.slice A xs.length c, .int .i64 m] w (IntsOut (leeches xs m) w) := by
  by_cases h : statesErr xs = 0
  · by_cases hm : m < 1
    · exact leeches_low A c xs m w hA h hm
    · exact leeches_ok A c xs m w hA h (by omega)
  · exact leeches_bad A c xs m w hA h

end Go.Proofs.Ytokghdcfbbogdaa
