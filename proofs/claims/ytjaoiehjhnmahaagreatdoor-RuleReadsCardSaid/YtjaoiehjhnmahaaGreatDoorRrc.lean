/-
  WALKS: a reader of words takes a word, in the program and in the reference.
-/
import Derived.Test.YtjaoiehjhnmahaaGreatDoorRrb
import Derived.Test.YtjaoiehjhnmahaaGreatDoorRrm
set_option linter.all false
namespace Go.Proofs.YtjaoiehjhnmahaaGreatDoor
open Go.RowKit

theorem NumOut.no {l : List UInt8} {w : World} {e : Ending} {w' : World} (h : NumOut l w e w') (hn : num l = none) : ∃ k, e = .returned (.tuple #[.int .i64 k, .bool false]) ∧ Below w.heap.size w w' := by
  obtain ⟨⟨k, he, -⟩, hb⟩ := h
  rw [hn] at he
  exact ⟨k, he, hb⟩
theorem NumOut.yes {l : List UInt8} {w : World} {e : Ending} {w' : World} {v : Int} (h : NumOut l w e w') (hn : num l = some v) : e = .returned (.tuple #[.int .i64 v, .bool true]) ∧ Below w.heap.size w w' := by
  obtain ⟨⟨k, he, hk⟩, hb⟩ := h
  rw [hn] at he
  rw [hk v hn] at he
  exact ⟨he, hb⟩
theorem dt_none {x : ByteArray} (h : dt x = none) : (dateR x.data.toList).2 ≠ 0 := by
  unfold dt at h
  split at h
  · cases h
  · assumption
theorem dt_some {x : ByteArray} {n : Int} (h : dt x = some n) : dateR x.data.toList = (n, 0) := by
  unfold dt at h
  split at h
  · rename_i h2
    injection h with h
    exact Prod.ext h h2
  · cases h

set_option maxHeartbeats 3200000 in
set_option maxRecDepth 100000 in
theorem take_any (s : ByteArray) (p B : Nat) (L : List ByteArray) (f : Bool) (w : World) (h : Rd 64 w p B L f) :
    Calls Tryz.prog 88 #[.pointer (some ⟨p, 0, none⟩), .string s] w fun e w' => e = .returned (.bool (tkB s L)) ∧ Rd 64 w' p B (tkL s L) f ∧ Trn p w w' := by
  have HR := hide h
  obtain ⟨⟨b, o, c, h1, h2, h3, h4, h5, h6⟩, h7, h8, h9⟩ := h
  have c0 : w.cell? ⟨p, 0, none⟩ = some (.slice (some ⟨b, o, none⟩) L.length c) := h1.cell 0
  have c1 : w.cell? ⟨p, 1, none⟩ = some (.bool f) := h1.cell 1
  have z0 := h1.frozen 0
  have z1 := h1.frozen 1
  have hp := h1.lt
  rcases tk_cases s L with ⟨rfl, e1, e2⟩ | ⟨x, r, rfl, hx, e1, e2⟩ | ⟨r, rfl, e1, e2⟩
  · rw [e1, e2]
    have c0' : w.cell? ⟨p, 0, none⟩ = some (.slice (some ⟨b, o, none⟩) 0 c) := c0
    clear c0 h1 h2 h3 h4 h5 h6 h7 h8 h9 e1 e2
    go_enter Tryz.func88, Tryz.ntmps88
    go_wp2
    go_ret
    exact ⟨rfl, HR.out, Trn.refl _ _⟩
  · rw [e1, e2]
    have d0 : w.cell? ⟨b, o, none⟩ = some (.string x) := h6 0 (by simp)
    have hb := lit_ne hx
    have c0' : w.cell? ⟨p, 0, none⟩ = some (.slice (some ⟨b, o, none⟩) (r.length + 1) c) := c0
    clear c0 h1 h2 h3 h4 h5 h6 h7 h8 h9 e1 e2
    go_enter Tryz.func88, Tryz.ntmps88
    go_wp2
    go_ret
    exact ⟨rfl, HR.out, Trn.refl _ _⟩
  · rw [e1, e2]
    have d0 : w.cell? ⟨b, o, none⟩ = some (.string s) := h6 0 (by simp)
    have c0' : w.cell? ⟨p, 0, none⟩ = some (.slice (some ⟨b, o, none⟩) (r.length + 1) c) := c0
    have hl2 : r.length + 1 ≤ c := h4
    have HX := hide (Rd.next h1 h2 h3 h4 h5 h6 h7 h8 h9)
    have HY := hide (fun hc : c = 1 => Rd.next0 h1 h2 h3 (by omega) h7 h8 h9)
    clear c0 h1 h2 h3 h4 h5 h6 h7 h8 h9 e1 e2
    go_enter Tryz.func88, Tryz.ntmps88
    go_wp2
    all_goals
      go_ret
      exact ⟨rfl, (by first | exact HX.out | exact HY.out (by omega)), Trn.set _ _⟩

set_option maxHeartbeats 3200000 in
set_option maxRecDepth 100000 in
theorem is_any (s : ByteArray) (p B : Nat) (L : List ByteArray) (f : Bool) (w : World) (h : Rd 69 w p B L f) :
    Calls Tryz.prog 29 #[.pointer (some ⟨p, 0, none⟩), .string s] w fun e w' => e = .returned (.bool (tkB s L)) ∧ Rd 69 w' p B (tkL s L) f ∧ Trn p w w' := by
  have HR := hide h
  obtain ⟨⟨b, o, c, h1, h2, h3, h4, h5, h6⟩, h7, h8, h9⟩ := h
  have c0 : w.cell? ⟨p, 0, none⟩ = some (.slice (some ⟨b, o, none⟩) L.length c) := h1.cell 0
  have c1 : w.cell? ⟨p, 1, none⟩ = some (.bool f) := h1.cell 1
  have z0 := h1.frozen 0
  have z1 := h1.frozen 1
  have hp := h1.lt
  rcases tk_cases s L with ⟨rfl, e1, e2⟩ | ⟨x, r, rfl, hx, e1, e2⟩ | ⟨r, rfl, e1, e2⟩
  · rw [e1, e2]
    have c0' : w.cell? ⟨p, 0, none⟩ = some (.slice (some ⟨b, o, none⟩) 0 c) := c0
    clear c0 h1 h2 h3 h4 h5 h6 h7 h8 h9 e1 e2
    go_enter Tryz.func29, Tryz.ntmps29
    go_wp2
    go_ret
    exact ⟨rfl, HR.out, Trn.refl _ _⟩
  · rw [e1, e2]
    have d0 : w.cell? ⟨b, o, none⟩ = some (.string x) := h6 0 (by simp)
    have hb := lit_ne hx
    have c0' : w.cell? ⟨p, 0, none⟩ = some (.slice (some ⟨b, o, none⟩) (r.length + 1) c) := c0
    clear c0 h1 h2 h3 h4 h5 h6 h7 h8 h9 e1 e2
    go_enter Tryz.func29, Tryz.ntmps29
    go_wp2
    go_ret
    exact ⟨rfl, HR.out, Trn.refl _ _⟩
  · rw [e1, e2]
    have d0 : w.cell? ⟨b, o, none⟩ = some (.string s) := h6 0 (by simp)
    have c0' : w.cell? ⟨p, 0, none⟩ = some (.slice (some ⟨b, o, none⟩) (r.length + 1) c) := c0
    have hl2 : r.length + 1 ≤ c := h4
    have HX := hide (Rd.next h1 h2 h3 h4 h5 h6 h7 h8 h9)
    have HY := hide (fun hc : c = 1 => Rd.next0 h1 h2 h3 (by omega) h7 h8 h9)
    clear c0 h1 h2 h3 h4 h5 h6 h7 h8 h9 e1 e2
    go_enter Tryz.func29, Tryz.ntmps29
    go_wp2
    all_goals
      go_ret
      exact ⟨rfl, (by first | exact HX.out | exact HY.out (by omega)), Trn.set _ _⟩

set_option maxHeartbeats 3200000 in
set_option maxRecDepth 100000 in
theorem next_any (p B : Nat) (L : List ByteArray) (f : Bool) (w : World) (h : Rd 64 w p B L f) :
    Calls Tryz.prog 95 #[.pointer (some ⟨p, 0, none⟩)] w fun e w' => e = .returned (.string (L.headD ⟨#[]⟩)) ∧ Rd 64 w' p B L.tail (f || L.isEmpty) ∧ Trn p w w' := by
  have HR := hide h
  obtain ⟨⟨b, o, c, h1, h2, h3, h4, h5, h6⟩, h7, h8, h9⟩ := h
  have c0 : w.cell? ⟨p, 0, none⟩ = some (.slice (some ⟨b, o, none⟩) L.length c) := h1.cell 0
  have c1 : w.cell? ⟨p, 1, none⟩ = some (.bool f) := h1.cell 1
  have z0 := h1.frozen 0
  have z1 := h1.frozen 1
  have hp := h1.lt
  cases L with
  | nil =>
    have c0' : w.cell? ⟨p, 0, none⟩ = some (.slice (some ⟨b, o, none⟩) 0 c) := c0
    clear c0 h1 h2 h3 h4 h5 h6 h7 h8 h9
    go_enter Tryz.func95, Tryz.ntmps95
    go_wp2
    go_ret
    exact ⟨rfl, by simpa using HR.out.flag true, Trn.set _ _⟩
  | cons x r =>
    have d0 : w.cell? ⟨b, o, none⟩ = some (.string x) := h6 0 (by simp)
    have c0' : w.cell? ⟨p, 0, none⟩ = some (.slice (some ⟨b, o, none⟩) (r.length + 1) c) := c0
    have hl2 : r.length + 1 ≤ c := h4
    have HX := hide (Rd.next h1 h2 h3 h4 h5 h6 h7 h8 h9)
    have HY := hide (fun hc : c = 1 => Rd.next0 h1 h2 h3 (by omega) h7 h8 h9)
    clear c0 h1 h2 h3 h4 h5 h6 h7 h8 h9
    go_enter Tryz.func95, Tryz.ntmps95
    go_wp2
    all_goals
      go_ret
      exact ⟨rfl, (by first | simpa using HX.out | simpa using HY.out (by omega)), Trn.set _ _⟩

set_option maxHeartbeats 3200000 in
set_option maxRecDepth 100000 in
theorem word_any (p B : Nat) (L : List ByteArray) (f : Bool) (w : World) (h : Rd 69 w p B L f) :
    Calls Tryz.prog 31 #[.pointer (some ⟨p, 0, none⟩)] w fun e w' => e = .returned (.string (L.headD ⟨#[]⟩)) ∧ Rd 69 w' p B L.tail (f && !L.isEmpty) ∧ Trn p w w' := by
  have HR := hide h
  obtain ⟨⟨b, o, c, h1, h2, h3, h4, h5, h6⟩, h7, h8, h9⟩ := h
  have c0 : w.cell? ⟨p, 0, none⟩ = some (.slice (some ⟨b, o, none⟩) L.length c) := h1.cell 0
  have c1 : w.cell? ⟨p, 1, none⟩ = some (.bool f) := h1.cell 1
  have z0 := h1.frozen 0
  have z1 := h1.frozen 1
  have hp := h1.lt
  cases L with
  | nil =>
    have c0' : w.cell? ⟨p, 0, none⟩ = some (.slice (some ⟨b, o, none⟩) 0 c) := c0
    clear c0 h1 h2 h3 h4 h5 h6 h7 h8 h9
    go_enter Tryz.func31, Tryz.ntmps31
    go_wp2
    go_ret
    exact ⟨rfl, by simpa using HR.out.flag false, Trn.set _ _⟩
  | cons x r =>
    have d0 : w.cell? ⟨b, o, none⟩ = some (.string x) := h6 0 (by simp)
    have c0' : w.cell? ⟨p, 0, none⟩ = some (.slice (some ⟨b, o, none⟩) (r.length + 1) c) := c0
    have hl2 : r.length + 1 ≤ c := h4
    have HX := hide (Rd.next h1 h2 h3 h4 h5 h6 h7 h8 h9)
    have HY := hide (fun hc : c = 1 => Rd.next0 h1 h2 h3 (by omega) h7 h8 h9)
    clear c0 h1 h2 h3 h4 h5 h6 h7 h8 h9
    go_enter Tryz.func31, Tryz.ntmps31
    go_wp2
    all_goals
      go_ret
      exact ⟨rfl, (by first | simpa using HX.out | simpa using HY.out (by omega)), Trn.set _ _⟩

set_option maxHeartbeats 3200000 in
set_option maxRecDepth 100000 in
theorem numberP_any (p B : Nat) (L : List ByteArray) (f : Bool) (w : World) (h : Rd 64 w p B L f) (hP : ∀ w', Trn p w w' → PowTab w') :
    Calls Tryz.prog 89 #[.pointer (some ⟨p, 0, none⟩)] w fun e w' => ∃ k, e = .returned (.int .i64 k) ∧ Rd 64 w' p B L.tail (f || (rdO nm L).isNone) ∧ Trn p w w' ∧ ∀ n, rdO nm L = some n → k = n := by
  have HN := hide (next_any p B L f w h)
  have hsz := h.sz
  have HP := hide hP
  clear hP
  clear h
  cases L with
  | nil =>
    simp only [List.headD_nil, List.tail_nil, List.isEmpty_nil, Bool.or_true, Bool.not_true, Bool.and_false] at HN
    have HC := hide (fun W hp => plainNumber_any ⟨#[]⟩ W hp)
    have HN2 := hide (show num ((⟨#[]⟩ : ByteArray).data.toList) = none from rfl)
    go_enter Tryz.func89, Tryz.ntmps89
    go_wp2_with (first | (go_at_call 95; with_reducible refine (HN.out).mono ?_; rintro e W1 ⟨rfl, hr1, ht1⟩; have HR1 := hide hr1; have HT1 := hide ht1; obtain ⟨⟨b, o, c, k1, -, -, -, -, -⟩, k7, k8, -⟩ := hr1; have c1 := k1.cell 1; simp only [List.getElem?_toArray, List.getElem?_cons_succ, List.getElem?_cons_zero] at c1; have z1 := k1.frozen 1; have hp1 := k1.lt; clear k1 k7 k8 ht1) | (go_at_call 93; with_reducible refine (HC.out _ (HP.out _ HT1.out)).mono ?_; intro e w' hno; obtain ⟨kv, rfl, hbl⟩ := hno.no HN2.out; obtain ⟨os2, n2, rfl⟩ := below_plus hbl; clear hbl hno))
    go_returns
    exact ⟨_, rfl, by simpa [rdO] using (HR1.out.flag true).below_ (by repeat (first | exact Below.refl _ _ | with_reducible refine bl_plus ?_ | with_reducible refine bl_alloc ?_ _ | with_reducible refine bl_drew ?_ | with_reducible refine bl_drewN ?_ _)), (HT1.out.set_ _).plus _ _, fun n h => by cases h⟩
  | cons x r =>
    simp only [List.headD_cons, List.tail_cons, List.isEmpty_cons, Bool.or_false, Bool.not_false, Bool.and_true] at HN
    have hx := hsz x (by simp)
    have HC := hide (fun W hp => plainNumber_any x W hp)
    clear hsz hx
    rcases hn : nm x with _ | v
    · have HNM := hide hn
      have HN2 := hide (show num x.data.toList = none from hn)
      clear hn
      cases f
      all_goals
        go_enter Tryz.func89, Tryz.ntmps89
        go_wp2_with (first | (go_at_call 95; with_reducible refine (HN.out).mono ?_; rintro e W1 ⟨rfl, hr1, ht1⟩; have HR1 := hide hr1; have HT1 := hide ht1; obtain ⟨⟨b, o, c, k1, -, -, -, -, -⟩, k7, k8, -⟩ := hr1; have c1 := k1.cell 1; simp only [List.getElem?_toArray, List.getElem?_cons_succ, List.getElem?_cons_zero] at c1; have z1 := k1.frozen 1; have hp1 := k1.lt; clear k1 k7 k8 ht1) | (go_at_call 93; with_reducible refine (HC.out _ (HP.out _ HT1.out)).mono ?_; intro e w' hno; obtain ⟨kv, rfl, hbl⟩ := hno.no HN2.out; obtain ⟨os2, n2, rfl⟩ := below_plus hbl; clear hbl hno))
        go_returns
        exact ⟨_, rfl, by simpa [rdO, HNM.out] using (HR1.out.flag true).below_ (by repeat (first | exact Below.refl _ _ | with_reducible refine bl_plus ?_ | with_reducible refine bl_alloc ?_ _ | with_reducible refine bl_drew ?_ | with_reducible refine bl_drewN ?_ _)), (HT1.out.set_ _).plus _ _, fun n h => by rw [rdO, HNM.out] at h; cases h⟩
    · have HNM := hide hn
      have HN2 := hide (show num x.data.toList = some v from hn)
      clear hn
      cases f
      all_goals
        go_enter Tryz.func89, Tryz.ntmps89
        go_wp2_with (first | (go_at_call 95; with_reducible refine (HN.out).mono ?_; rintro e W1 ⟨rfl, hr1, ht1⟩; have HR1 := hide hr1; have HT1 := hide ht1; obtain ⟨⟨b, o, c, k1, -, -, -, -, -⟩, k7, k8, -⟩ := hr1; have c1 := k1.cell 1; simp only [List.getElem?_toArray, List.getElem?_cons_succ, List.getElem?_cons_zero] at c1; have z1 := k1.frozen 1; have hp1 := k1.lt; clear k1 k7 k8 ht1) | (go_at_call 93; with_reducible refine (HC.out _ (HP.out _ HT1.out)).mono ?_; intro e w' hno; obtain ⟨rfl, hbl⟩ := hno.yes HN2.out; obtain ⟨os2, n2, rfl⟩ := below_plus hbl; clear hbl hno))
        go_returns
      · exact ⟨_, rfl, by simpa [rdO, HNM.out] using (HR1.out.flag false).below_ (by repeat (first | exact Below.refl _ _ | with_reducible refine bl_plus ?_ | with_reducible refine bl_alloc ?_ _ | with_reducible refine bl_drew ?_ | with_reducible refine bl_drewN ?_ _)), (HT1.out.set_ _).plus _ _, fun n h => by rw [rdO, HNM.out] at h; cases h; rfl⟩
      · exact ⟨_, rfl, by simpa [rdO, HNM.out] using (HR1.out.flag true).below_ (by repeat (first | exact Below.refl _ _ | with_reducible refine bl_plus ?_ | with_reducible refine bl_alloc ?_ _ | with_reducible refine bl_drew ?_ | with_reducible refine bl_drewN ?_ _)), (HT1.out.set_ _).plus _ _, fun n h => by rw [rdO, HNM.out] at h; cases h; rfl⟩

set_option maxHeartbeats 3200000 in
set_option maxRecDepth 100000 in
theorem numberR_any (p B : Nat) (L : List ByteArray) (f : Bool) (w : World) (h : Rd 69 w p B L f) :
    Calls Tryz.prog 30 #[.pointer (some ⟨p, 0, none⟩)] w fun e w' => ∃ k, e = .returned (.int .i64 k) ∧ Rd 69 w' p B L.tail (f && (rdO nm L).isSome) ∧ Trn p w w' ∧ ∀ n, rdO nm L = some n → k = n := by
  have HN := hide (word_any p B L f w h)
  have hsz := h.sz
  clear h
  cases L with
  | nil =>
    simp only [List.headD_nil, List.tail_nil, List.isEmpty_nil, Bool.or_true, Bool.not_true, Bool.and_false] at HN
    have HC := hide (fun W => digits_any ⟨#[]⟩ W)
    have HN2 := hide (show num ((⟨#[]⟩ : ByteArray).data.toList) = none from rfl)
    go_enter Tryz.func30, Tryz.ntmps30
    go_wp2_with (first | (go_at_call 31; with_reducible refine (HN.out).mono ?_; rintro e W1 ⟨rfl, hr1, ht1⟩; have HR1 := hide hr1; have HT1 := hide ht1; obtain ⟨⟨b, o, c, k1, -, -, -, -, -⟩, k7, k8, -⟩ := hr1; have c1 := k1.cell 1; simp only [List.getElem?_toArray, List.getElem?_cons_succ, List.getElem?_cons_zero] at c1; have z1 := k1.frozen 1; have hp1 := k1.lt; clear k1 k7 k8 ht1) | (go_at_call 106; with_reducible refine (HC.out _).mono ?_; intro e w' hno; obtain ⟨kv, rfl, hbl⟩ := hno.no HN2.out; obtain ⟨os2, n2, rfl⟩ := below_plus hbl; clear hbl hno))
    go_returns
    exact ⟨_, rfl, by simpa [rdO] using (HR1.out.flag false).below_ (by repeat (first | exact Below.refl _ _ | with_reducible refine bl_plus ?_ | with_reducible refine bl_alloc ?_ _ | with_reducible refine bl_drew ?_ | with_reducible refine bl_drewN ?_ _)), (HT1.out.set_ _).plus _ _, fun n h => by cases h⟩
  | cons x r =>
    simp only [List.headD_cons, List.tail_cons, List.isEmpty_cons, Bool.or_false, Bool.not_false, Bool.and_true] at HN
    have hx := hsz x (by simp)
    have HC := hide (fun W => digits_any x W)
    clear hsz hx
    rcases hn : nm x with _ | v
    · have HNM := hide hn
      have HN2 := hide (show num x.data.toList = none from hn)
      clear hn
      cases f
      all_goals
        go_enter Tryz.func30, Tryz.ntmps30
        go_wp2_with (first | (go_at_call 31; with_reducible refine (HN.out).mono ?_; rintro e W1 ⟨rfl, hr1, ht1⟩; have HR1 := hide hr1; have HT1 := hide ht1; obtain ⟨⟨b, o, c, k1, -, -, -, -, -⟩, k7, k8, -⟩ := hr1; have c1 := k1.cell 1; simp only [List.getElem?_toArray, List.getElem?_cons_succ, List.getElem?_cons_zero] at c1; have z1 := k1.frozen 1; have hp1 := k1.lt; clear k1 k7 k8 ht1) | (go_at_call 106; with_reducible refine (HC.out _).mono ?_; intro e w' hno; obtain ⟨kv, rfl, hbl⟩ := hno.no HN2.out; obtain ⟨os2, n2, rfl⟩ := below_plus hbl; clear hbl hno))
        go_returns
        exact ⟨_, rfl, by simpa [rdO, HNM.out] using (HR1.out.flag false).below_ (by repeat (first | exact Below.refl _ _ | with_reducible refine bl_plus ?_ | with_reducible refine bl_alloc ?_ _ | with_reducible refine bl_drew ?_ | with_reducible refine bl_drewN ?_ _)), (HT1.out.set_ _).plus _ _, fun n h => by rw [rdO, HNM.out] at h; cases h⟩
    · have HNM := hide hn
      have HN2 := hide (show num x.data.toList = some v from hn)
      clear hn
      cases f
      all_goals
        go_enter Tryz.func30, Tryz.ntmps30
        go_wp2_with (first | (go_at_call 31; with_reducible refine (HN.out).mono ?_; rintro e W1 ⟨rfl, hr1, ht1⟩; have HR1 := hide hr1; have HT1 := hide ht1; obtain ⟨⟨b, o, c, k1, -, -, -, -, -⟩, k7, k8, -⟩ := hr1; have c1 := k1.cell 1; simp only [List.getElem?_toArray, List.getElem?_cons_succ, List.getElem?_cons_zero] at c1; have z1 := k1.frozen 1; have hp1 := k1.lt; clear k1 k7 k8 ht1) | (go_at_call 106; with_reducible refine (HC.out _).mono ?_; intro e w' hno; obtain ⟨rfl, hbl⟩ := hno.yes HN2.out; obtain ⟨os2, n2, rfl⟩ := below_plus hbl; clear hbl hno))
        go_returns
      · exact ⟨_, rfl, by simpa [rdO, HNM.out] using (HR1.out.flag false).below_ (by repeat (first | exact Below.refl _ _ | with_reducible refine bl_plus ?_ | with_reducible refine bl_alloc ?_ _ | with_reducible refine bl_drew ?_ | with_reducible refine bl_drewN ?_ _)), (HT1.out.set_ _).plus _ _, fun n h => by rw [rdO, HNM.out] at h; cases h; rfl⟩
      · exact ⟨_, rfl, by simpa [rdO, HNM.out] using (HR1.out.flag true).below_ (by repeat (first | exact Below.refl _ _ | with_reducible refine bl_plus ?_ | with_reducible refine bl_alloc ?_ _ | with_reducible refine bl_drew ?_ | with_reducible refine bl_drewN ?_ _)), (HT1.out.set_ _).plus _ _, fun n h => by rw [rdO, HNM.out] at h; cases h; rfl⟩

set_option maxHeartbeats 3200000 in
set_option maxRecDepth 100000 in
theorem dayP_any (p B : Nat) (L : List ByteArray) (f : Bool) (w : World) (h : Rd 64 w p B L f) :
    Calls Tryz.prog 91 #[.pointer (some ⟨p, 0, none⟩)] w fun e w' => ∃ k, e = .returned (.int .i64 k) ∧ Rd 64 w' p B L.tail (f || (rdO dt L).isNone) ∧ Trn p w w' ∧ ∀ n, rdO dt L = some n → k = n := by
  have HN := hide (next_any p B L f w h)
  have hsz := h.sz
  clear h
  cases L with
  | nil =>
    simp only [List.headD_nil, List.tail_nil, List.isEmpty_nil, Bool.or_true, Bool.not_true, Bool.and_false] at HN
    have HC := hide (fun W => readDate_any ⟨#[]⟩ W (by decide))
    have hd0 : dateR ((⟨#[]⟩ : ByteArray).data.toList) = (0, 8) := rfl
    rw [hd0] at HC
    go_enter Tryz.func91, Tryz.ntmps91
    go_wp2_with (first | (go_at_call 95; with_reducible refine (HN.out).mono ?_; rintro e W1 ⟨rfl, hr1, ht1⟩; have HR1 := hide hr1; have HT1 := hide ht1; obtain ⟨⟨b, o, c, k1, -, -, -, -, -⟩, k7, k8, -⟩ := hr1; have c1 := k1.cell 1; simp only [List.getElem?_toArray, List.getElem?_cons_succ, List.getElem?_cons_zero] at c1; have z1 := k1.frozen 1; have hp1 := k1.lt; clear k1 k7 k8 ht1) | (go_at_call 101; with_reducible refine (HC.out _).mono ?_; rintro e w' ⟨rfl, hbl⟩; obtain ⟨os2, n2, rfl⟩ := below_plus hbl; clear hbl))
    go_returns
    exact ⟨_, rfl, by simpa [rdO] using (HR1.out.flag true).below_ (by repeat (first | exact Below.refl _ _ | with_reducible refine bl_plus ?_ | with_reducible refine bl_alloc ?_ _ | with_reducible refine bl_drew ?_ | with_reducible refine bl_drewN ?_ _)), (HT1.out.set_ _).plus _ _, fun n h => by cases h⟩
  | cons x r =>
    simp only [List.headD_cons, List.tail_cons, List.isEmpty_cons, Bool.or_false, Bool.not_false, Bool.and_true] at HN
    have hx := hsz x (by simp)
    have HC := hide (fun W => readDate_any x W hx)
    clear hsz hx
    rcases hn : dt x with _ | v
    · have HNM := hide hn
      have hne := dt_none hn
      generalize dateR x.data.toList = O at *
      obtain ⟨O1, O2⟩ := O
      simp only at hne HC
      have e1 : (O2 != 0) = true := bne_iff_ne.2 hne
      have e2 : (O2 == 0) = false := beq_eq_false_iff_ne.2 hne
      clear hn
      cases f
      all_goals
        go_enter Tryz.func91, Tryz.ntmps91
        go_wp2_with (first | (go_at_call 95; with_reducible refine (HN.out).mono ?_; rintro e W1 ⟨rfl, hr1, ht1⟩; have HR1 := hide hr1; have HT1 := hide ht1; obtain ⟨⟨b, o, c, k1, -, -, -, -, -⟩, k7, k8, -⟩ := hr1; have c1 := k1.cell 1; simp only [List.getElem?_toArray, List.getElem?_cons_succ, List.getElem?_cons_zero] at c1; have z1 := k1.frozen 1; have hp1 := k1.lt; clear k1 k7 k8 ht1) | (go_at_call 101; with_reducible refine (HC.out _).mono ?_; rintro e w' ⟨rfl, hbl⟩; obtain ⟨os2, n2, rfl⟩ := below_plus hbl; clear hbl))
        go_returns
        exact ⟨_, rfl, by simpa [rdO, HNM.out] using (HR1.out.flag true).below_ (by repeat (first | exact Below.refl _ _ | with_reducible refine bl_plus ?_ | with_reducible refine bl_alloc ?_ _ | with_reducible refine bl_drew ?_ | with_reducible refine bl_drewN ?_ _)), (HT1.out.set_ _).plus _ _, fun n h => by rw [rdO, HNM.out] at h; cases h⟩
    · have HNM := hide hn
      rw [dt_some hn] at HC
      clear hn
      cases f
      all_goals
        go_enter Tryz.func91, Tryz.ntmps91
        go_wp2_with (first | (go_at_call 95; with_reducible refine (HN.out).mono ?_; rintro e W1 ⟨rfl, hr1, ht1⟩; have HR1 := hide hr1; have HT1 := hide ht1; obtain ⟨⟨b, o, c, k1, -, -, -, -, -⟩, k7, k8, -⟩ := hr1; have c1 := k1.cell 1; simp only [List.getElem?_toArray, List.getElem?_cons_succ, List.getElem?_cons_zero] at c1; have z1 := k1.frozen 1; have hp1 := k1.lt; clear k1 k7 k8 ht1) | (go_at_call 101; with_reducible refine (HC.out _).mono ?_; rintro e w' ⟨rfl, hbl⟩; obtain ⟨os2, n2, rfl⟩ := below_plus hbl; clear hbl))
        go_returns
      · exact ⟨_, rfl, by simpa [rdO, HNM.out] using (HR1.out.flag false).below_ (by repeat (first | exact Below.refl _ _ | with_reducible refine bl_plus ?_ | with_reducible refine bl_alloc ?_ _ | with_reducible refine bl_drew ?_ | with_reducible refine bl_drewN ?_ _)), (HT1.out.set_ _).plus _ _, fun n h => by rw [rdO, HNM.out] at h; cases h; rfl⟩
      · exact ⟨_, rfl, by simpa [rdO, HNM.out] using (HR1.out.flag true).below_ (by repeat (first | exact Below.refl _ _ | with_reducible refine bl_plus ?_ | with_reducible refine bl_alloc ?_ _ | with_reducible refine bl_drew ?_ | with_reducible refine bl_drewN ?_ _)), (HT1.out.set_ _).plus _ _, fun n h => by rw [rdO, HNM.out] at h; cases h; rfl⟩

set_option maxHeartbeats 3200000 in
set_option maxRecDepth 100000 in
theorem dateR_any (p B : Nat) (L : List ByteArray) (f : Bool) (w : World) (h : Rd 69 w p B L f) (hM : ∀ w', Trn p w w' → MaxTold w') :
    Calls Tryz.prog 32 #[.pointer (some ⟨p, 0, none⟩)] w fun e w' => ∃ k, e = .returned (.int .i64 k) ∧ Rd 69 w' p B L.tail (f && (rdO dt L).isSome) ∧ Trn p w w' ∧ ∀ n, rdO dt L = some n → k = n := by
  have HN := hide (word_any p B L f w h)
  have hsz := h.sz
  have HM := hide hM
  clear hM
  clear h
  cases L with
  | nil =>
    simp only [List.headD_nil, List.tail_nil, List.isEmpty_nil, Bool.or_true, Bool.not_true, Bool.and_false] at HN
    have HC := hide (fun W hm => dateRead_any ⟨#[]⟩ W (by decide) hm)
    have hd0 : dateR ((⟨#[]⟩ : ByteArray).data.toList) = (0, 8) := rfl
    rw [hd0] at HC
    go_enter Tryz.func32, Tryz.ntmps32
    go_wp2_with (first | (go_at_call 31; with_reducible refine (HN.out).mono ?_; rintro e W1 ⟨rfl, hr1, ht1⟩; have HR1 := hide hr1; have HT1 := hide ht1; obtain ⟨⟨b, o, c, k1, -, -, -, -, -⟩, k7, k8, -⟩ := hr1; have c1 := k1.cell 1; simp only [List.getElem?_toArray, List.getElem?_cons_succ, List.getElem?_cons_zero] at c1; have z1 := k1.frozen 1; have hp1 := k1.lt; clear k1 k7 k8 ht1) | (go_at_call 107; with_reducible refine (HC.out _ (HM.out _ HT1.out)).mono ?_; rintro e w' ⟨rfl, hbl⟩; obtain ⟨os2, n2, rfl⟩ := below_plus hbl; clear hbl))
    go_returns
    exact ⟨_, rfl, by simpa [rdO] using (HR1.out.flag false).below_ (by repeat (first | exact Below.refl _ _ | with_reducible refine bl_plus ?_ | with_reducible refine bl_alloc ?_ _ | with_reducible refine bl_drew ?_ | with_reducible refine bl_drewN ?_ _)), (HT1.out.set_ _).plus _ _, fun n h => by cases h⟩
  | cons x r =>
    simp only [List.headD_cons, List.tail_cons, List.isEmpty_cons, Bool.or_false, Bool.not_false, Bool.and_true] at HN
    have hx := hsz x (by simp)
    have HC := hide (fun W hm => dateRead_any x W hx hm)
    clear hsz hx
    rcases hn : dt x with _ | v
    · have HNM := hide hn
      have hne := dt_none hn
      generalize dateR x.data.toList = O at *
      obtain ⟨O1, O2⟩ := O
      simp only at hne HC
      have e1 : (O2 != 0) = true := bne_iff_ne.2 hne
      have e2 : (O2 == 0) = false := beq_eq_false_iff_ne.2 hne
      clear hn
      cases f
      all_goals
        go_enter Tryz.func32, Tryz.ntmps32
        go_wp2_with (first | (go_at_call 31; with_reducible refine (HN.out).mono ?_; rintro e W1 ⟨rfl, hr1, ht1⟩; have HR1 := hide hr1; have HT1 := hide ht1; obtain ⟨⟨b, o, c, k1, -, -, -, -, -⟩, k7, k8, -⟩ := hr1; have c1 := k1.cell 1; simp only [List.getElem?_toArray, List.getElem?_cons_succ, List.getElem?_cons_zero] at c1; have z1 := k1.frozen 1; have hp1 := k1.lt; clear k1 k7 k8 ht1) | (go_at_call 107; with_reducible refine (HC.out _ (HM.out _ HT1.out)).mono ?_; rintro e w' ⟨rfl, hbl⟩; obtain ⟨os2, n2, rfl⟩ := below_plus hbl; clear hbl))
        go_returns
        exact ⟨_, rfl, by simpa [rdO, HNM.out] using (HR1.out.flag false).below_ (by repeat (first | exact Below.refl _ _ | with_reducible refine bl_plus ?_ | with_reducible refine bl_alloc ?_ _ | with_reducible refine bl_drew ?_ | with_reducible refine bl_drewN ?_ _)), (HT1.out.set_ _).plus _ _, fun n h => by rw [rdO, HNM.out] at h; cases h⟩
    · have HNM := hide hn
      rw [dt_some hn] at HC
      clear hn
      cases f
      all_goals
        go_enter Tryz.func32, Tryz.ntmps32
        go_wp2_with (first | (go_at_call 31; with_reducible refine (HN.out).mono ?_; rintro e W1 ⟨rfl, hr1, ht1⟩; have HR1 := hide hr1; have HT1 := hide ht1; obtain ⟨⟨b, o, c, k1, -, -, -, -, -⟩, k7, k8, -⟩ := hr1; have c1 := k1.cell 1; simp only [List.getElem?_toArray, List.getElem?_cons_succ, List.getElem?_cons_zero] at c1; have z1 := k1.frozen 1; have hp1 := k1.lt; clear k1 k7 k8 ht1) | (go_at_call 107; with_reducible refine (HC.out _ (HM.out _ HT1.out)).mono ?_; rintro e w' ⟨rfl, hbl⟩; obtain ⟨os2, n2, rfl⟩ := below_plus hbl; clear hbl))
        go_returns
      · exact ⟨_, rfl, by simpa [rdO, HNM.out] using (HR1.out.flag false).below_ (by repeat (first | exact Below.refl _ _ | with_reducible refine bl_plus ?_ | with_reducible refine bl_alloc ?_ _ | with_reducible refine bl_drew ?_ | with_reducible refine bl_drewN ?_ _)), (HT1.out.set_ _).plus _ _, fun n h => by rw [rdO, HNM.out] at h; cases h; rfl⟩
      · exact ⟨_, rfl, by simpa [rdO, HNM.out] using (HR1.out.flag true).below_ (by repeat (first | exact Below.refl _ _ | with_reducible refine bl_plus ?_ | with_reducible refine bl_alloc ?_ _ | with_reducible refine bl_drew ?_ | with_reducible refine bl_drewN ?_ _)), (HT1.out.set_ _).plus _ _, fun n h => by rw [rdO, HNM.out] at h; cases h; rfl⟩

end Go.Proofs.YtjaoiehjhnmahaaGreatDoor
