/-
  WALKS: all days that have a page, in the program; the reference's DailyFor and DailiesFor; the title of a day's page.
-/
import Derived.Test.YtioppoaijehicaaGreatDoorDpe
import Derived.Test.YtioppoaijehicaaGreatDoorIti
import Derived.Test.YtioppoaijehicaaGreatDoorTbi
import Derived.Maps.Own
import Derived.Maps.OwnSet
import Derived.Maps.Range
import Derived.WalkKit
set_option linter.all false
namespace Go.Proofs.YtioppoaijehicaaGreatDoor
open Go.RowKit Go.Lib Go.Maps Go.WideElems Go.WideMaps Go.Shelf Cal

/-- The keys of a map of numbers. -/
theorem NF.keys {g n : Nat} {W : World} {D : DataW Unit} {f : Int → Option Nat} (h : NF g W n D f) : (Go.intKeys D).Nodup ∧ ∀ x, x ∈ Go.intKeys D ↔ (f x).isSome = true := by
  obtain ⟨es, rfl, hp, -⟩ := h.own.entries lawI
  obtain ⟨es', hD, hko⟩ := h.own.keysOf
  obtain rfl : es = es' := by simpa using hD
  have hk : ∀ p ∈ es, ∃ x, p.1 = .int .i64 x := fun p hp => by
    obtain ⟨v, hv⟩ := hko p hp
    obtain ⟨x, _, hx, _⟩ := Maps.keyOf_i64 Tryz.underlying3 hv
    exact ⟨x, hx⟩
  refine ⟨?_, fun x => ?_⟩
  · show (es.map fun p => Go.intOf p.1).Nodup
    refine List.pairwise_map.2 (hp.imp_of_mem fun {p q} hp' hq' hne e => hne ?_)
    obtain ⟨a, ha⟩ := hk p hp'
    obtain ⟨b, hb⟩ := hk q hq'
    rw [ha, hb] at e ⊢
    exact congrArg _ e
  · rw [← h.has x, has_eq, List.any_eq_true]
    show x ∈ es.map (fun p => Go.intOf p.1) ↔ _
    rw [List.mem_map]
    constructor
    · rintro ⟨p, hp', rfl⟩
      obtain ⟨a, ha⟩ := hk p hp'
      exact ⟨p, hp', by rw [ha]; simp [Lit.sameKey, Go.intOf]⟩
    · rintro ⟨p, hp', hs⟩
      obtain ⟨a, ha⟩ := hk p hp'
      rw [ha] at hs
      exact ⟨p, hp', by rw [ha]; simpa [Lit.sameKey, Go.intOf] using hs⟩

/-- maps.Keys at such a map. -/
theorem keysI_any (b : Nat) (W : World) : Calls Tryz.prog 30 #[.map (some b)] W fun e w' => e = .returned (.func (.func 68) #[] #[.pointer (some ⟨W.heap.size, 0, none⟩)]) ∧ w' = W.alloc (.cells #[.map (some b)] 52) :=
  callsIn_wide.1 (Tryz.maps_Keys_30 (some b) W)

theorem mergeI_rise {zs : List Int} (h : zs.Nodup) : (zs.mergeSort fun x y => decide (x ≤ y)).Pairwise (· < ·) := by
  have hp : (zs.mergeSort fun x y => decide (x ≤ y)).Pairwise (· ≤ ·) := by
    have := List.pairwise_mergeSort (le := fun x y : Int => decide (x ≤ y)) (fun a b c h1 h2 => by simp at *; omega) (fun a b => by simp; omega) zs
    exact this.imp (fun h => by simpa using h)
  have hn : (zs.mergeSort fun x y => decide (x ≤ y)).Nodup := (List.mergeSort_perm zs _).nodup_iff.2 h
  exact (List.pairwise_and_iff.2 ⟨hp, hn⟩).imp fun h => by have := h.1; have := h.2; omega

theorem mapIV (zs : List Int) : zs.map encZ = zs.map (Value.int .i64) := rfl

/-- Sorted numbers out of such a map: they rise. -/
theorem sortedI_any (g n : Nat) (W : World) (D : DataW Unit) (f : Int → Option Nat) (h : NF g W n D f) (hn : n ≤ 1000000) (ws : List Int) (hr : ws.Pairwise (· < ·)) (hm : ∀ x, x ∈ ws ↔ (f x).isSome = true) :
    Calls Tryz.prog 29 #[.func (.func 68) #[] #[.pointer (some ⟨W.heap.size, 0, none⟩)]] (W.alloc (.cells #[.map (some g)] 52)) (fun e w' => ∃ (A : Option Addr) (c : Nat), e = .returned (.slice A ws.length c) ∧ w'.ownsRow W.heap.size 3 1 (.slice A ws.length c) ws.length (ws.map (Value.int .i64)) ∧ Below W.heap.size W w') := by
  have hs : Maps.size D ≤ n := h.own.size_le
  refine (callsIn_wide.1 (Tryz.slices_Sorted_keys_29_30 g n D _ W h.own (by unfold maxLen; omega) (by omega))).mono ?_
  rintro e w' ⟨v, ss, rfl, hp, ho, -, hb⟩
  obtain ⟨hnd, hmem⟩ := h.keys
  have e1 : ss.mergeSort (fun x y => decide (x ≤ y)) = ws := riseI_ext (mergeI_rise (hp.nodup_iff.2 hnd)) hr (fun x => by rw [List.mem_mergeSort, hp.mem_iff, hmem, hm])
  have hl : ss.length = ws.length := by rw [← e1, List.length_mergeSort]
  rw [mapIV, e1, hl] at ho
  obtain ⟨A, c, rfl⟩ := ownI_form ho
  refine ⟨A, c, rfl, ?_, (bl_alloc (Below.refl _ _) _).trans (hb.mono (by simp))⟩
  refine ⟨ho.1, ?_⟩
  rcases ho.2 with h0 | ⟨g', cap, cur, h1, h2, h3⟩
  · exact .inl h0
  · exact .inr ⟨g', cap, cur, h1, Nat.le_trans (by simp) h2, h3⟩

/-- A pair of ints, each once. -/
def DlsOut (r : List Int × Int) (w : World) (e : Ending) (w' : World) : Prop := ∃ A c, e = .returned (.tuple #[.slice A r.1.length c, .int .i64 r.2]) ∧ IntsAt w' A r.1 ∧ Below w.heap.size w w'

/-- What Dailies hands back. -/
noncomputable def dlsRes (l : List BK) : List Int × Int := if baseErr l ≠ 0 then ([], baseErr l) else (tidy (dsL l (l.drop 1).length), 0)

theorem clipI_any (A : Option Addr) (n c : Nat) (w : World) (hn : n ≤ c) (hA : A = none → c = 0) :
    Calls Tryz.prog 28 #[.slice A n c] w fun e w' => e = .returned (.slice A n n) ∧ w' = w := by
  cases A with
  | none =>
    obtain rfl := hA rfl
    obtain rfl : n = 0 := by omega
    go_enter Tryz.func28, Tryz.ntmps28
    go_wp2
    go_ret
    exact ⟨rfl, rfl⟩
  | some a =>
    go_enter Tryz.func28, Tryz.ntmps28
    go_wp2
    go_ret
    exact ⟨rfl, rfl⟩

set_option maxHeartbeats 1600000 in
set_option maxRecDepth 100000 in
theorem dailiesP_any (l : List BK) (A : Option Addr) (c : Nat) (w : World) (hA : BsAt w A l) (hk : ∀ b ∈ l, ∀ k ∈ b.kids, In64 k) (hmt : MaxTold w) :
    Calls Tryz.prog 8 #[.slice A l.length c] w (DlsOut (dlsRes l) w) := by
  have HPO : Hid (∀ (zs : List Int) (b : Int) (n : Nat) A c w', dlsRes l = (zs, b) → n = zs.length → IntsAt w' A zs → Below w.heap.size w w' → DlsOut (dlsRes l) w (.returned (.tuple #[.slice A n c, .int .i64 b])) w') := hide fun zs b n A c w' h1 h0 h2 h3 => by subst h0; rw [h1]; exact ⟨A, c, rfl, h2, h3⟩
  generalize DlsOut (dlsRes l) w = PO at *
  have HC := hide (check_any l A c w hA hk)
  by_cases he : baseErr l = 0
  · have HDY := hide (fun W (hb : Below w.heap.size w W) => dailies_any l A c W (right_of he) (hA.below hb) (maxTold_below hmt hb))
    have R := right_of he
    have hln := R.len
    unfold DysOut at HDY
    have hlen : (l.drop 1).length = l.length - 1 := List.length_drop
    have HF := hide (fun n A c w' => HPO.out (tidy (dsL l (l.drop 1).length)) 0 n A c w' (by unfold dlsRes; rw [if_neg (fun h => h he)]))
    have HSD := hide (fun g n W D (h : NF g W n D (dyF l l.length)) (hn : n ≤ l.length) => sortedI_any g n W D (dyF l l.length) h (by omega) (tidy (dsL l (l.drop 1).length)) (tidy_is _).1 (fun x => by rw [(tidy_is _).2, hlen]; exact ds_mem R x))
    rw [he] at HC
    clear HPO hA hk hmt he R hlen
    generalize tidy (dsL l (l.drop 1).length) = ws at *
    go_enter Tryz.func8, Tryz.ntmps8
    go_wp2_with (first
      | (go_at_call 23; refine HC.out.mono ?_; rintro e w1 ⟨rfl, hb1⟩)
      | (go_at_call 25; refine (HDY.out _ hb1).mono ?_; rintro e w3 ⟨g, n, D, rfl, -, hN, hnl, hb3⟩; have hb4 := below_chainT hb1 hb3; have HN := hide hN; clear hN hb3)
      | (go_at_call 30; refine (keysI_any _ _).mono ?_; rintro e w5 ⟨rfl, hw5⟩; subst w5)
      | (go_at_call 29; refine (HSD.out _ _ _ _ HN.out hnl).mono ?_; rintro e w6 ⟨A6, c6, rfl, ho6, hb6⟩; obtain ⟨A8, c8, e6, hc6, -, ha6⟩ := own_form ho6; injection e6 with e61 _ e63; subst e61 e63; have HI6 := hide (intsAt_of_own ho6); have hb7 := below_chainT hb4 hb6; clear ho6 hb6)
      | (go_at_call 28; refine (clipI_any A6 ws.length c6 w6 hc6 ha6).mono ?_; rintro e w7 ⟨rfl, hw7⟩; subst w7))
    exact HF.out _ _ _ _ rfl HI6.out hb7
  · have HF := hide (fun w' => HPO.out [] (baseErr l) 0 none 0 w' (by unfold dlsRes; rw [if_pos he]) rfl IntsAt.nil)
    have e1 : (baseErr l != 0) = true := bne_iff_ne.2 he
    clear HPO hA hk hmt he
    generalize baseErr l = E at *
    go_enter Tryz.func8, Tryz.ntmps8
    go_wp2_with (go_at_call 23; refine HC.out.mono ?_; rintro e w1 ⟨rfl, hb1⟩)
    exact HF.out _ hb1

set_option maxHeartbeats 1600000 in
set_option maxRecDepth 100000 in
theorem dailiesFor_any (l : List BK) (A : Option Addr) (c : Nat) (w : World) (hA : BsAt w A l) (hk : ∀ b ∈ l, ∀ k ∈ b.kids, In64 k) (hc : l.length ≤ c) (hmt : MaxTold w) :
    Calls Tryz.prog 9 #[.slice A l.length c] w (DlsOut (dlsRes l) w) := by
  have HPO : Hid (∀ (zs : List Int) (b : Int) (n : Nat) A c w', dlsRes l = (zs, b) → n = zs.length → IntsAt w' A zs → Below w.heap.size w w' → DlsOut (dlsRes l) w (.returned (.tuple #[.slice A n c, .int .i64 b])) w') := hide fun zs b n A c w' h1 h0 h2 h3 => by subst h0; rw [h1]; exact ⟨A, c, rfl, h2, h3⟩
  generalize DlsOut (dlsRes l) w = PO at *
  have HC := hide (baseError_any l A c w hA)
  by_cases he : baseErr l = 0
  · have HDY := hide (fun W (hb : Below w.heap.size w W) => dailiesOf_any l A c W (right_of he) (hA.below hb) hc (maxTold_below hmt hb))
    unfold DsOut at HDY
    have HF := hide (fun n A c w' => HPO.out (tidy (dsL l (l.drop 1).length)) 0 n A c w' (by unfold dlsRes; rw [if_neg (fun h => h he)]))
    rw [he] at HC
    clear HPO hA hk hmt he
    generalize tidy (dsL l (l.drop 1).length) = ws at *
    go_enter Tryz.func9, Tryz.ntmps9
    go_wp2_with (first
      | (go_at_call 26; refine HC.out.mono ?_; rintro e w1 ⟨rfl, hb1⟩)
      | (go_at_call 31; refine (HDY.out _ hb1).mono ?_; rintro e w3 ⟨A3, c3, rfl, ho3, hb3⟩; have hb4 := below_chainT hb1 hb3; have HI3 := hide (intsAt_of_own ho3); clear ho3 hb3))
    exact HF.out _ _ _ _ rfl HI3.out hb4
  · have HF := hide (fun w' => HPO.out [] (baseErr l) 0 none 0 w' (by unfold dlsRes; rw [if_pos he]) rfl IntsAt.nil)
    have e1 : (baseErr l != 0) = true := bne_iff_ne.2 he
    clear HPO hA hk hmt he
    generalize baseErr l = E at *
    go_enter Tryz.func9, Tryz.ntmps9
    go_wp2_with (go_at_call 26; refine HC.out.mono ?_; rintro e w1 ⟨rfl, hb1⟩)
    exact HF.out _ hb1

set_option maxHeartbeats 1600000 in
set_option maxRecDepth 100000 in
theorem dailyFor_any (l : List BK) (A : Option Addr) (c : Nat) (w : World) (hA : BsAt w A l) (hc : l.length ≤ c) (d : Int) :
    Calls Tryz.prog 7 #[.slice A l.length c, .int .i64 d] w (DlOut (dlRes l d) w) := by
  have HPO : Hid (∀ (a b : Int) w', dlRes l d = (a, b) → Below w.heap.size w w' → DlOut (dlRes l d) w (.returned (.tuple #[.int .i64 a, .int .i64 b])) w') := hide fun a b w' h1 h2 => by rw [h1]; exact ⟨rfl, h2⟩
  generalize DlOut (dlRes l d) w = PO at *
  have HC := hide (baseError_any l A c w hA)
  have HD := hide (fun W => isDay_any d W)
  by_cases he : baseErr l = 0
  · have R := right_of he
    have HDY := hide (fun (h0 : 0 ≤ d) (h1 : d ≤ 100000) W (hb : Below w.heap.size w W) => dailyOf_any l A c W R (hA.below hb) hc d h0 h1)
    rw [he] at HC
    by_cases hd : 0 ≤ d ∧ d ≤ 100000
    · rw [decide_eq_true hd] at HD
      have HY := hide (HDY.out hd.1 hd.2)
      have hsame := dly_same R hd.1 hd.2
      rw [show l.length - 1 = (l.drop 1).length from List.length_drop.symm] at hsame
      rw [hsame] at HY
      have hde : dayErr d = 0 := by unfold dayErr; rw [if_neg (by omega)]
      cases hf : dyF l l.length d with
      | some p =>
        have hp0 : (0 : Int) < (p : Int) := by
          unfold dyF at hf
          obtain ⟨b, hb, rfl⟩ := Option.map_eq_some_iff.1 hf
          have h9 := List.find?_some hb
          unfold isDy at h9
          rw [Bool.and_eq_true] at h9
          have := (R.pgs_pos (of_decide_eq_true h9.1))
          omega
        have HF := hide (fun w' => HPO.out p 0 w' (by unfold dlRes; rw [if_neg (fun h => h he), if_neg (fun h => h hde), hf]))
        rw [hf] at HY
        simp only [Option.getD_some] at HY
        clear HPO HDY hA he hd hde hf hsame R
        go_enter Tryz.func7, Tryz.ntmps7
        go_wp2_with (first
          | (go_at_call 26; refine HC.out.mono ?_; rintro e w1 ⟨rfl, hb1⟩)
          | (go_at_call 10; refine (HD.out _).mono ?_; rintro e w2 ⟨rfl, rfl⟩)
          | (go_at_call 27; refine (HY.out _ hb1).mono ?_; rintro e w3 ⟨rfl, hb3⟩; have hb4 := below_chainT hb1 hb3))
        exact HF.out _ hb4
      | none =>
        have HF := hide (fun w' => HPO.out 0 7 w' (by unfold dlRes; rw [if_neg (fun h => h he), if_neg (fun h => h hde), hf]))
        rw [hf] at HY
        simp only [Option.getD_none] at HY
        clear HPO HDY hA he hd hde hf hsame R
        go_enter Tryz.func7, Tryz.ntmps7
        go_wp2_with (first
          | (go_at_call 26; refine HC.out.mono ?_; rintro e w1 ⟨rfl, hb1⟩)
          | (go_at_call 10; refine (HD.out _).mono ?_; rintro e w2 ⟨rfl, rfl⟩)
          | (go_at_call 27; refine (HY.out _ hb1).mono ?_; rintro e w3 ⟨rfl, hb3⟩; have hb4 := below_chainT hb1 hb3))
        exact HF.out _ hb4
    · have hde : dayErr d ≠ 0 := by unfold dayErr; rw [if_pos (by omega)]; decide
      have HF := hide (fun w' => HPO.out 0 2 w' (by unfold dlRes; rw [if_neg (fun h => h he), if_pos hde]))
      rw [decide_eq_false hd] at HD
      clear HPO HDY hA he hd hde R
      go_enter Tryz.func7, Tryz.ntmps7
      go_wp2_with (first
        | (go_at_call 26; refine HC.out.mono ?_; rintro e w1 ⟨rfl, hb1⟩)
        | (go_at_call 10; refine (HD.out _).mono ?_; rintro e w2 ⟨rfl, rfl⟩))
      exact HF.out _ hb1
  · have HF := hide (fun w' => HPO.out 0 (baseErr l) w' (by unfold dlRes; rw [if_pos he]))
    have e1 : (baseErr l != 0) = true := bne_iff_ne.2 he
    clear HPO HD hA he
    generalize baseErr l = E at *
    go_enter Tryz.func7, Tryz.ntmps7
    go_wp2_with (go_at_call 26; refine HC.out.mono ?_; rintro e w1 ⟨rfl, hb1⟩)
    exact HF.out _ hb1

end Go.Proofs.YtioppoaijehicaaGreatDoor
