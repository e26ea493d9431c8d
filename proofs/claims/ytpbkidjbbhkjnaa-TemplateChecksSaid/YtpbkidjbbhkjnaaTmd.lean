/-
  WALK: the names of a template's fields; a template is read and checked.
-/
import Derived.Test.YtpbkidjbbhkjnaaTmc
namespace Go.Proofs.Ytpbkidjbbhkjnaa
open Go.RowKit

/-- Texts as values. -/
def strV (l : List ByteArray) : List Value := l.map Value.string
theorem pcNames_take_succ {ps : List Pc} {k : Nat} (h : k < ps.length) : pcNames (ps.take (k + 1)) = pcNames (ps.take k) ++ (if ps[k].n.size ≠ 0 then [ps[k].n] else []) := by
  rw [List.take_add_one, List.getElem?_eq_getElem h, pcNames_append]
  congr 1
  unfold pcNames
  by_cases h0 : ps[k].n.size = 0
  · rw [if_neg (fun h => h h0), Option.toList_some, List.filter_cons_of_neg (by simp only [h0]; decide)]
    rfl
  · rw [if_pos h0, Option.toList_some]
    show List.map _ (List.filter _ [ps[k]]) = _
    rw [List.filter_cons, if_pos (decide_eq_true h0)]
    rfl
theorem size_zero {s : ByteArray} (h : s.size = 0) : s = ⟨#[]⟩ := by
  obtain ⟨⟨l⟩⟩ := s
  have : l.length = 0 := h
  rw [List.length_eq_zero_iff.1 this]
theorem isEmpty_size (s : ByteArray) : s.toList.isEmpty = decide (s.size = 0) := by
  rw [Lib.toList_data, Lib.size_eq]
  cases s.data.toList <;> simp
theorem size_ne {s : ByteArray} (h : s.size ≠ 0) : s ≠ ⟨#[]⟩ := fun e => h (by rw [e]; rfl)
theorem info_strT : (Try.prog.info? 9).map (fun i => (i.zero, i.size, i.bytes)) = some (some (.string ByteArray.empty), 1, 16) := by kernel_rfl
theorem PcAt.own {w w' : World} {A : Option Addr} {l : List Pc} (h : PcAt w A l) (hb : Below w.heap.size w w') : PcAt w' A l := h.below hb

/-- What names hands back. -/
def NmOut (ps : List Pc) (w : World) (e : Ending) (w' : World) : Prop :=
  Below w.heap.size w w' ∧ ∃ A c, e = .returned (.slice A (pcNames ps).length c) ∧ OwnK 1 9 w' w.heap.size (.slice A (pcNames ps).length c) (pcNames ps).length (strV (pcNames ps))

set_option maxHeartbeats 6400000 in
set_option maxRecDepth 100000 in
theorem names_any (A : Option Addr) (c : Nat) (ps : List Pc) (w : World) (hA : PcAt w A ps) (hp : ps.length ≤ 400001) : Calls Try.prog 24 #[.slice A ps.length c] w (NmOut ps w) := by
  obtain ⟨iS, hiS, hzS0, hzS1, hzS2⟩ := info_parts info_strT
  have HIS := hide (And.intro hiS (And.intro hzS0 (And.intro hzS1 hzS2)))
  clear hiS hzS0 hzS1 hzS2
  have HPO : Hid (∀ (A : Option Addr) (c m : Nat) (xs : List Value) (w' : World), m = (pcNames ps).length → xs = strV (pcNames ps) → OwnK 1 9 w' w.heap.size (.slice A m c) m xs → Below w.heap.size w w' → NmOut ps w (.returned (.slice A m c)) w') :=
    hide (fun A c m xs w' h1 h2 h3 hb => by subst h1 h2; exact ⟨hb, A, c, rfl, h3⟩)
  generalize NmOut ps w = PO at *
  have HA := hide hA
  have HP := hide hp
  have hmax : ps.length ≤ maxLen := hA.1
  unfold maxLen at hmax
  clear hA hp
  go_enter Try.func24, Try.ntmps24
  go_wp2
  go_loopw [3, 8] (fun o i wr => ∃ (k m : Nat) (A2 : Option Addr) (c2 : Nat) (xs : List Value) (os : Array Obj) (n : Nat), k ≤ ps.length ∧ m ≤ k ∧ o = .slice A2 m c2 ∧ i = .int .i64 k ∧ Hid (m = (pcNames (ps.take k)).length ∧ xs = strV (pcNames (ps.take k))) ∧ Hid (OwnK 1 9 wr w.heap.size (.slice A2 m c2) m xs) ∧ wr = plus w os n) (fun _ i _ => ps.length - (intOf i).toNat)
  case atStart => exact ⟨0, 0, none, 0, [], #[], _, Nat.zero_le _, Nat.zero_le _, rfl, rfl, hide ⟨rfl, rfl⟩, hide OwnK.empty, plus_nil.symm⟩
  case round =>
    obtain ⟨k, m, A2, c2, xs, os, n, hk, hmk, rfl, rfl, HX, HS, rfl⟩ := hrel
    by_cases hlt : k < ps.length
    · obtain ⟨b, o, rfl, hb, hv⟩ := HA.out.2 (by omega)
      obtain ⟨q0, q1, q2, q3⟩ := hv k hlt
      have hp := HP.out
      have hnx := pcNames_take_succ hlt
      clear hv
      generalize ps[k] = y at *
      obtain ⟨yt, yn, yo, yh⟩ := y
      dsimp only at q0 q1 q2 q3 hnx
      by_cases h0 : yn.size = 0
      · obtain rfl := size_zero h0
        have HNX := hide (show pcNames (ps.take (k + 1)) = pcNames (ps.take k) by rw [hnx]; exact List.append_nil _)
        clear hnx h0
        go_wp2
        go_roundw
        case rel => exact ⟨k + 1, m, A2, c2, xs, _, _, hlt, by omega, rfl, by go_num, hide (by rw [HNX.out]; exact HX.out), hide (by repeat (first | with_reducible exact HS.out | with_reducible refine OwnK.alloc ?_ _ | with_reducible refine OwnK.plus ?_ _ _ | with_reducible refine OwnK.drew ?_)), by first | rfl | (rw [plus_alloc])⟩
        case measure => simp [intOf]; omega
      · have hne : yn.toList.isEmpty = false := by rw [isEmpty_size]; exact decide_eq_false h0
        have HNX := hide (show pcNames (ps.take (k + 1)) = pcNames (ps.take k) ++ [yn] by rw [hnx, if_pos h0])
        clear hnx h0
        go_wp2_with (at_builtin; refine wpList_append_m rfl (.tmp 15) (.tmp 18) rfl rfl Try.underlying28 HIS.out.1 HIS.out.2.1 HIS.out.2.2.1 (by decide) rfl (by have := HIS.out.2.2.2; omega) w.heap.size m 1 (.slice A2 m c2) xs [.string yn] _ rfl (by repeat (first | with_reducible exact HS.out | with_reducible refine OwnK.alloc ?_ _ | with_reducible refine OwnK.plus ?_ _ _ | with_reducible refine OwnK.drew ?_)) (by decide) rfl (by intro u hu; simp only [List.mem_cons, List.not_mem_nil, or_false] at hu; rcases hu with rfl; rfl) rfl (newN_at (cs := [_]) (by simp only [World.size_alloc, plus_size, World.drew])) (by omega) (by simp only [World.size_alloc, plus_size, World.drew]; omega) ?_; intro v' w1 hown1 hgr1 hfr1; obtain ⟨os9, n9, rfl⟩ := grown_plus (L := w) (by repeat (first | exact Below.refl _ _ | refine bl_plus ?_ | refine bl_alloc ?_ _ | refine bl_drew ?_ | refine bl_drewN ?_ _)) hgr1 (fun q hq => (HS.out.lt q hq).1); obtain ⟨A1, c1, rfl, _⟩ := hown1.form; have HN := hide hown1; clear hown1 hgr1 hfr1)
        go_roundw
        case rel => exact ⟨k + 1, m + 1, A1, c1, xs ++ [.string yn], os9, n9, hlt, by omega, by go_num, by go_num, hide (by rw [HNX.out, List.length_append, ← HX.out.1, strV, List.map_append, HX.out.2]; exact ⟨rfl, rfl⟩), HN, rfl⟩
        case measure => simp [intOf]; omega
    · obtain rfl : k = ps.length := by omega
      have hx := HX.out
      rw [List.take_length] at hx
      go_wp2
      exact HPO.out A2 c2 m xs _ hx.1 hx.2 HS.out (by repeat (first | exact Below.refl _ _ | refine bl_plus ?_ | refine bl_alloc ?_ _ | refine bl_drew ?_ | refine bl_drewN ?_ _))

/-- Where and how a template is wrong. -/
def tq (s : ByteArray) : Nat × Nat := if 400000 < s.size then (0, 4) else match (tm s 0).2 with
  | some q => (q, 8)
  | none => if 40 < (tm s 0).1.length then (0, 4) else (0, 0)
theorem tq_large {s : ByteArray} (h : 400000 < s.size) : tq s = (0, 4) := if_pos h
theorem tq_bad {s : ByteArray} {q : Nat} (h : s.size ≤ 400000) (hq : (tm s 0).2 = some q) : tq s = (q, 8) := by
  unfold tq
  rw [if_neg (by omega), hq]
theorem tq_many {s : ByteArray} (h : s.size ≤ 400000) (hq : (tm s 0).2 = none) (hn : 40 < (tm s 0).1.length) : tq s = (0, 4) := by
  unfold tq
  rw [if_neg (by omega), hq]
  exact if_pos hn
theorem tq_ok {s : ByteArray} (h : s.size ≤ 400000) (hq : (tm s 0).2 = none) (hn : (tm s 0).1.length ≤ 40) : tq s = (0, 0) := by
  unfold tq
  rw [if_neg (by omega), hq]
  exact if_neg (by omega)

/-- What readTemplate hands back. -/
def RtOut (s : ByteArray) (w : World) (e : Ending) (w' : World) : Prop :=
  Below w.heap.size w w' ∧ (((tq s).2 ≠ 0 ∧ e = .returned (.tuple #[.slice none 0 0, .int .i64 ((tq s).1 : Nat), .int .i64 ((tq s).2 : Nat)])) ∨
    (tq s = (0, 0) ∧ ∃ A c ps, e = .returned (.tuple #[.slice A ps.length c, .int .i64 0, .int .i64 0]) ∧ PcAt w' A ps ∧ pcNames ps = (tm s 0).1 ∧ ps.length ≤ 400001))

set_option maxHeartbeats 3200000 in
set_option maxRecDepth 100000 in
theorem readTemplate_any (s : ByteArray) (w : World) : Calls Try.prog 22 #[.string s] w (RtOut s w) := by
  have HPO : Hid ((∀ (q r : Nat) (w' : World), tq s = (q, r) → r ≠ 0 → Below w.heap.size w w' → RtOut s w (.returned (.tuple #[.slice none 0 0, .int .i64 (q : Nat), .int .i64 (r : Nat)])) w') ∧
      (∀ (A : Option Addr) (c : Nat) (ps : List Pc) (w' : World), tq s = (0, 0) → PcAt w' A ps → pcNames ps = (tm s 0).1 → ps.length ≤ 400001 → Below w.heap.size w w' → RtOut s w (.returned (.tuple #[.slice A ps.length c, .int .i64 0, .int .i64 0])) w')) :=
    hide ⟨fun q r w' h hr hb => ⟨hb, .inl ⟨by rw [h]; exact hr, by rw [h]⟩⟩, fun A c ps w' h1 h2 h3 h4 hb => ⟨hb, .inr ⟨h1, A, c, ps, rfl, h2, h3, h4⟩⟩⟩
  generalize RtOut s w = PO at *
  by_cases h : 400000 < s.size
  · have hT := tq_large h
    go_enter Try.func22, Try.ntmps22
    go_wp2
    exact HPO.out.1 0 4 _ hT (by decide) (by repeat (first | exact Below.refl _ _ | refine bl_plus ?_ | refine bl_alloc ?_ _ | refine bl_drew ?_ | refine bl_drewN ?_ _))
  · have HPI := hide (pieces_any s w (by omega))
    have HSZ := hide (show s.size ≤ 400000 by omega)
    unfold PcOut at HPI
    cases hq : (tm s 0).2 with
    | some q =>
      rw [hq] at HPI
      have hT := hide (tq_bad (by omega) hq)
      clear hq
      have HP2 := hide (show Calls Try.prog 45 #[.string s] w (fun e w' => e = .returned (.tuple #[.slice none 0 0, .int .i64 (q : Nat), .bool false]) ∧ Below w.heap.size w w') from HPI.out.mono (by
        rintro e w' ⟨hbl, (⟨q2, hq2, rfl⟩ | ⟨hq2, _⟩)⟩
        · cases hq2
          exact ⟨rfl, hbl⟩
        · cases hq2))
      clear HPI
      go_enter Try.func22, Try.ntmps22
      go_wp2_with (go_at_call 45; refine HP2.out.mono ?_; rintro e w' ⟨rfl, hbl⟩; obtain ⟨os1, n1, rfl⟩ := below_plus hbl; clear hbl)
      exact HPO.out.1 q 8 _ hT.out (by decide) (by repeat (first | exact Below.refl _ _ | refine bl_plus ?_ | refine bl_alloc ?_ _ | refine bl_drew ?_ | refine bl_drewN ?_ _))
    | none =>
      rw [hq] at HPI
      have HP2 := hide (show Calls Try.prog 45 #[.string s] w (fun e w' => Below w.heap.size w w' ∧ ∃ A c ps, e = .returned (.tuple #[.slice A (List.length ps) c, .int .i64 0, .bool true]) ∧ PcAt w' A ps ∧ pcNames ps = (tm s 0).1 ∧ ps.length ≤ 400001) from HPI.out.mono (by
        rintro e w' ⟨hbl, (⟨q2, hq2, rfl⟩ | ⟨_, hr⟩)⟩
        · cases hq2
        · exact ⟨hbl, hr⟩))
      clear HPI
      by_cases hn : 40 < (tm s 0).1.length
      · have hT := hide (tq_many (by omega) hq hn)
        have HN := hide hn
        clear hq hn
        go_enter Try.func22, Try.ntmps22
        go_upto_region 6 with (go_at_call 45; refine HP2.out.mono ?_; rintro e w' ⟨hbl, A, c, ps, rfl, hat, hnm, hlen⟩; obtain ⟨os1, n1, rfl⟩ := below_plus hbl; have hNM := hide (names_any A c ps _ hat hlen); have hcnt : 40 < (pcNames ps).length := (by rw [hnm]; exact HN.out); clear hat hnm hbl)
        unfold NmOut at hNM
        go_wp2_with (go_at_call 24; refine hNM.out.mono ?_; rintro e w' ⟨hbl, A2, c2, rfl, -⟩; obtain ⟨os2, n2, rfl⟩ := below_plus hbl; clear hbl)
        exact HPO.out.1 0 4 _ hT.out (by decide) (by repeat (first | exact Below.refl _ _ | refine bl_plus ?_ | refine bl_alloc ?_ _ | refine bl_drew ?_ | refine bl_drewN ?_ _))
      · have hT := hide (tq_ok (by omega) hq (by omega))
        have HN := hide (show (tm s 0).1.length ≤ 40 by omega)
        clear hq hn
        go_enter Try.func22, Try.ntmps22
        go_upto_region 6 with (go_at_call 45; refine HP2.out.mono ?_; rintro e w' ⟨hbl, A, c, ps, rfl, hat, hnm, hlen⟩; obtain ⟨os1, n1, rfl⟩ := below_plus hbl; have hNM := hide (names_any A c ps _ hat hlen); have hcnt : (pcNames ps).length ≤ 40 := (by rw [hnm]; exact HN.out); have hAT := hide hat; have hNA := hide hnm; have hLE := hide hlen; clear hat hnm hbl hlen)
        unfold NmOut at hNM
        go_wp2_with (go_at_call 24; refine hNM.out.mono ?_; rintro e w' ⟨hbl, A2, c2, rfl, -⟩; obtain ⟨os2, n2, rfl⟩ := below_plus hbl; clear hbl)
        exact HPO.out.2 A c ps _ hT.out (hAT.out.below (by repeat (first | exact Below.refl _ _ | refine bl_plus ?_ | refine bl_alloc ?_ _ | refine bl_drew ?_ | refine bl_drewN ?_ _))) hNA.out hLE.out (by repeat (first | exact Below.refl _ _ | refine bl_plus ?_ | refine bl_alloc ?_ _ | refine bl_drew ?_ | refine bl_drewN ?_ _))

theorem tq_cases (s : ByteArray) : tq s = (0, 0) ∨ (tq s).2 ≠ 0 := by
  unfold tq
  split
  · exact .inr (by decide)
  · split
    · exact .inr (by simp)
    · split
      · exact .inr (by decide)
      · exact .inl rfl
/-- What CheckTemplate hands back. -/
def CtOut (s : ByteArray) (w : World) (e : Ending) (w' : World) : Prop := e = .returned (.tuple #[.int .i64 ((tq s).1 : Nat), .int .i64 ((tq s).2 : Nat)]) ∧ Below w.heap.size w w'
set_option maxHeartbeats 1600000 in
theorem checkTemplate_any (s : ByteArray) (w : World) : Calls Try.prog 6 #[.string s] w (CtOut s w) := by
  have HRT := hide (readTemplate_any s w)
  unfold RtOut at HRT
  have hc := tq_cases s
  have HPO : Hid (∀ w', Below w.heap.size w w' → CtOut s w (.returned (.tuple #[.int .i64 ((tq s).1 : Nat), .int .i64 ((tq s).2 : Nat)])) w') := hide (fun w' hb => ⟨rfl, hb⟩)
  generalize CtOut s w = PO at *
  generalize tq s = R at *
  rcases hc with rfl | hc
  · have HP2 := hide (show Calls Try.prog 22 #[.string s] w (fun e w' => Below w.heap.size w w' ∧ ∃ A c, ∃ ps : List Pc, e = .returned (.tuple #[.slice A ps.length c, .int .i64 0, .int .i64 0])) from HRT.out.mono (by
      rintro e w' ⟨hbl, (⟨hq2, _⟩ | ⟨_, A, c, ps, rfl, _, _, _⟩)⟩
      · exact (hq2 rfl).elim
      · exact ⟨hbl, A, c, ps, rfl⟩))
    clear HRT
    go_enter Try.func6, Try.ntmps6
    go_wp2_with (go_at_call 22; refine HP2.out.mono ?_; rintro e w' ⟨hbl, A, c, ps, rfl⟩; obtain ⟨os1, n1, rfl⟩ := below_plus hbl; clear hbl)
    exact HPO.out _ (by repeat (first | exact Below.refl _ _ | refine bl_plus ?_ | refine bl_alloc ?_ _ | refine bl_drew ?_ | refine bl_drewN ?_ _))
  · have HP2 := hide (show Calls Try.prog 22 #[.string s] w (fun e w' => Below w.heap.size w w' ∧ e = .returned (.tuple #[.slice none 0 0, .int .i64 (R.1 : Nat), .int .i64 (R.2 : Nat)])) from HRT.out.mono (by
      rintro e w' ⟨hbl, (⟨_, rfl⟩ | ⟨hq2, _⟩)⟩
      · exact ⟨hbl, rfl⟩
      · exact (hc (by rw [hq2])).elim))
    clear HRT
    go_enter Try.func6, Try.ntmps6
    go_wp2_with (go_at_call 22; refine HP2.out.mono ?_; rintro e w' ⟨hbl, rfl⟩; obtain ⟨os1, n1, rfl⟩ := below_plus hbl; clear hbl)
    exact HPO.out _ (by repeat (first | exact Below.refl _ _ | refine bl_plus ?_ | refine bl_alloc ?_ _ | refine bl_drew ?_ | refine bl_drewN ?_ _))

end Go.Proofs.Ytpbkidjbbhkjnaa
