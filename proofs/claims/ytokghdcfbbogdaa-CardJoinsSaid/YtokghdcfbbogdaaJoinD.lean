/-
  WALKS: the reference's Join.
-/
import Derived.Test.YtokghdcfbbogdaaJoinC
import Derived.Test.YtokghdcfbbogdaaKeepD
namespace Go.Proofs.Ytokghdcfbbogdaa
open Go.RowKit

set_option maxHeartbeats 3200000 in
set_option maxRecDepth 100000 in
theorem joinIs_any (x y : St) (g : Nat) (w : World) (hg : StCells w g 0 y) (hgl : g < w.heap.size) :
    Calls Try.prog 82 #[x.val, .pointer (some ⟨g, 0, none⟩)] w fun e w' => e = .returned (.bool (named (y.bl, y.no) x)) ∧ Below w.heap.size w w' := by
  have ho := fun w => order_any x y w
  have hz := nameCmp_zero x.bl x.no y.bl y.no
  have hn : named (y.bl, y.no) x = decide ((y.bl, y.no) = (x.bl, x.no)) := by unfold named; rw [decide_eq_decide]; exact eq_comm
  rw [hn, ← hz]
  clear hn hz
  simp only [St.val] at ho ⊢
  have HO := hide ho
  obtain ⟨c0, c1, c2, c3, c4, c5, c6, c7, c8⟩ := hg
  simp only [Nat.zero_add] at c0 c1 c2 c3 c4 c5 c6 c7 c8
  clear ho
  go_enter Try.func82, Try.ntmps82
  go_wp2_with (go_at_call 83; refine (HO.out _).mono ?_; rintro e w' ⟨rfl, hb⟩; obtain ⟨os1, n1, rfl⟩ := below_plus hb; clear hb)
  go_ret
  exact ⟨rfl, (by repeat (first | exact Below.refl _ _ | refine bl_plus ?_ | refine bl_alloc ?_ _ | refine bl_drew ?_))⟩

set_option maxHeartbeats 3200000 in
set_option maxRecDepth 100000 in
theorem indexJoin_any (A : Option Addr) (c : Nat) (xs : List St) (y : St) (g : Nat) (w : World) (hA : StsAt w A xs) (hg : StCells w g 0 y) (hgl : g < w.heap.size) (hl : xs.length ≤ 100000) :
    Calls Try.prog 81 #[.slice A xs.length c, .func (.func 82) #[] #[.pointer (some ⟨g, 0, none⟩)]] w fun e w' =>
      (∃ z : Int, e = .returned (.int .i64 z) ∧ ((z = -1 ∧ xs.findIdx? (named (y.bl, y.no)) = none) ∨ ∃ (i : Nat), z = (i : Int) ∧ xs.findIdx? (named (y.bl, y.no)) = some i)) ∧ Below w.heap.size w w' := by
  have HA := hide hA
  have HG := hide hg
  have hki := fun x w hg hgl => joinIs_any x y g w hg hgl
  have HKI := hide hki
  generalize hkey : (y.bl, y.no) = key at *
  clear hkey hA hg hki
  go_enter Try.func81, Try.ntmps81
  go_wp2
  go_loopw [8] (fun i wr => ∃ (k : Nat) (os : Array Obj) (n : Nat), k ≤ xs.length ∧ i = .int .i64 k ∧ Hid (∀ j (h : j < xs.length), j < k → named key xs[j] = false) ∧ wr = plus w os n) (fun i _ => xs.length - (intOf i).toNat)
  case atStart => exact ⟨0, #[], _, Nat.zero_le _, rfl, fun j h hj => by omega, plus_nil.symm⟩
  case round =>
    obtain ⟨k, os, n, hk, rfl, HJ, rfl⟩ := hrel
    by_cases hlt : k < xs.length
    · obtain ⟨b, off, rfl, hb, hcell⟩ := HA.out (by omega)
      obtain ⟨c0, c1, c2, c3, c4, c5, c6, c7, c8⟩ := hcell k hlt
      have hgp : Hid (StCells (plus w os n) g 0 y) := HG.out.keep fun i => plus_cell hgl
      clear hcell
      obtain ⟨x, hx⟩ : ∃ x, x = xs[k] := ⟨_, rfl⟩
      rw [← hx] at c0 c1 c2 c3 c4 c5 c6 c7 c8
      have hkk := hide (HKI.out x (plus w os n) hgp.out (by rw [plus_size]; omega))
      simp only [St.val] at hkk
      have HX := hide hx
      clear hx
      cases hn : named key x with
      | true =>
        have HF : Hid (xs.findIdx? (named key) = some k) := by
          show _ = _
          rw [List.findIdx?_eq_some_iff_getElem]
          exact ⟨hlt, by rw [← HX.out]; exact hn, fun j hj => by rw [HJ.out j (by omega) hj]; simp⟩
        rw [hn] at hkk
        clear hn
        go_wp2_with (go_at_call 82; refine hkk.out.mono ?_; rintro e w' ⟨rfl, hb⟩; obtain ⟨os1, n1, rfl⟩ := below_plus hb; clear hb)
        go_returns
        exact ⟨⟨(k : Int), rfl, .inr ⟨k, rfl, HF.out⟩⟩, (by repeat (first | exact Below.refl _ _ | refine bl_plus ?_ | refine bl_alloc ?_ _ | refine bl_drew ?_))⟩
      | false =>
        have HF : Hid (∀ j (h : j < xs.length), j < k + 1 → named key xs[j] = false) := fun j h hj => by
          by_cases hjk : j = k
          · subst hjk; rw [← HX.out]; exact hn
          · exact HJ.out j h (by omega)
        rw [hn] at hkk
        clear hn
        go_wp2_with (go_at_call 82; refine hkk.out.mono ?_; rintro e w' ⟨rfl, hb⟩; obtain ⟨os1, n1, rfl⟩ := below_plus hb; clear hb)
        go_roundw
        case rel => exact ⟨k + 1, _, _, hlt, by go_num, HF.out, by rw [plus_plus]⟩
        case measure => simp [intOf]; omega
    · have HF : Hid (xs.findIdx? (named key) = none) := by
        show _ = _
        rw [List.findIdx?_eq_none_iff]
        intro x hx
        obtain ⟨j, hj, rfl⟩ := List.getElem_of_mem hx
        exact HJ.out j hj (by omega)
      go_wp2
      go_returns
      exact ⟨⟨-1, rfl, .inl ⟨rfl, HF.out⟩⟩, (by repeat (first | exact Below.refl _ _ | refine bl_plus ?_ | refine bl_alloc ?_ _ | refine bl_drew ?_))⟩

theorem ownK_of_own {w : World} {base n : Nat} {v : Value} {xs : List Value} {e : TypeId} (h : w.ownsRow base e 9 v n xs) : OwnK 9 e w base v n xs := by
  refine ⟨h.1, ?_⟩
  rcases h.2 with ⟨rfl, rfl⟩ | ⟨g, cap, cur, rfl, hb, hh, h1, h2, h3, h4⟩
  · exact ⟨none, 0, rfl, Nat.le_refl _, by simp [maxLen], .inl ⟨rfl, rfl, rfl⟩⟩
  · exact ⟨_, cap, rfl, h1, h2, .inr ⟨g, cur, rfl, hb, hh, by omega, h4⟩⟩
theorem OwnK.row {w : World} {base n : Nat} {A : Option Addr} {c : Nat} {xs : List St} (h : OwnK 9 24 w base (.slice A n c) n (flat xs)) (hn : 0 < n) :
    ∃ g cs, A = some ⟨g, 0, none⟩ ∧ base ≤ g ∧ Blk w g 24 cs ∧ RowOf cs xs ∧ n ≤ c ∧ c ≤ maxLen ∧ c * 9 ≤ cs.size := by
  obtain ⟨hl, A', c', hv, h1, h2, h3⟩ := h
  injection hv with e1 e2 e3
  subst e1 e3
  rw [flat_len] at hl
  rcases h3 with ⟨_, h0, _⟩ | ⟨g, cur, hA, hg, hb, h4, h5⟩
  · omega
  · refine ⟨g, cur, hA, hg, hb, fun j i hj hi => ?_, h1, h2, h4⟩
    rw [← flat_get xs j i hj hi, ← h5, List.getElem?_take_of_lt (by omega)]; simp
theorem ownK_of_row {w : World} {base n g c : Nat} {cs : Array Value} {xs : List St} (hg : base ≤ g) (hb : Blk w g 24 cs) (hr : RowOf cs xs) (hn : xs.length = n) (h1 : n ≤ c) (h2 : c ≤ maxLen) (h4 : c * 9 ≤ cs.size) :
    OwnK 9 24 w base (.slice (some ⟨g, 0, none⟩) n c) n (flat xs) := by
  refine ⟨by rw [flat_len, hn], _, c, rfl, h1, h2, .inr ⟨g, cs, rfl, hg, hb, h4, ?_⟩⟩
  have hcn : n * 9 ≤ cs.size := Nat.le_trans (Nat.mul_le_mul_right _ h1) h4
  apply List.ext_getElem?
  intro t
  by_cases ht : t < n * 9
  · have h9 : t = t / 9 * 9 + t % 9 := by omega
    have hq : t / 9 < xs.length := by omega
    have e1 := flat_get xs (t / 9) (t % 9) hq (by omega)
    have e2 := hr (t / 9) (t % 9) hq (by omega)
    rw [← h9] at e1 e2
    rw [e1, ← e2, List.getElem?_take_of_lt ht]; simp
  · rw [List.getElem?_eq_none (by rw [List.length_take]; omega), List.getElem?_eq_none (by rw [flat_len]; omega)]

theorem StCells.new9 (W : World) (y : St) {g : Nat} (hg : g = W.heap.size) : StCells (W.alloc (.cells #[.int .i64 y.bl, .int .i64 y.no, .int .i64 y.st, .int .i64 y.ea, .int .i64 y.du, .int .i64 y.la, .int .i64 y.ti, .int .i64 y.lp, .int .i64 y.bu] 24)) g 0 y ∧ g < (W.alloc (.cells #[.int .i64 y.bl, .int .i64 y.no, .int .i64 y.st, .int .i64 y.ea, .int .i64 y.du, .int .i64 y.la, .int .i64 y.ti, .int .i64 y.lp, .int .i64 y.bu] 24)).heap.size := by
  subst hg
  obtain ⟨y0, y1, y2, y3, y4, y5, y6, y7, y8, _, ylt⟩ := Blk.nine (Blk.new W 24 #[.int .i64 y.bl, .int .i64 y.no, .int .i64 y.st, .int .i64 y.ea, .int .i64 y.du, .int .i64 y.la, .int .i64 y.ti, .int .i64 y.lp, .int .i64 y.bu])
  exact ⟨⟨y0, y1, y2, y3, y4, y5, y6, y7, y8⟩, ylt⟩

end Go.Proofs.Ytokghdcfbbogdaa
