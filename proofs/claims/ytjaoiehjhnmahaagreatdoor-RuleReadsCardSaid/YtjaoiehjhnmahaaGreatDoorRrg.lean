/-
  WALK: a rule that is read, in the program.
-/
import Derived.Test.YtjaoiehjhnmahaaGreatDoorRrf
set_option linter.all false
namespace Go.Proofs.YtjaoiehjhnmahaaGreatDoor
open Go.RowKit

theorem take_wEvery (p B : Nat) (L : List ByteArray) (f : Bool) (w : World) (h : Rd 64 w p B L f) :
    Calls Tryz.prog 88 #[.pointer (some ⟨p, 0, none⟩), .string ⟨#[101, 118, 101, 114, 121]⟩] w fun e w' => e = .returned (.bool (tkB wEvery L)) ∧ Rd 64 w' p B (tkL wEvery L) f ∧ Trn p w w' := take_any wEvery p B L f w h

theorem take_wFrom (p B : Nat) (L : List ByteArray) (f : Bool) (w : World) (h : Rd 64 w p B L f) :
    Calls Tryz.prog 88 #[.pointer (some ⟨p, 0, none⟩), .string ⟨#[102, 114, 111, 109]⟩] w fun e w' => e = .returned (.bool (tkB wFrom L)) ∧ Rd 64 w' p B (tkL wFrom L) f ∧ Trn p w w' := take_any wFrom p B L f w h

theorem take_wUntil (p B : Nat) (L : List ByteArray) (f : Bool) (w : World) (h : Rd 64 w p B L f) :
    Calls Tryz.prog 88 #[.pointer (some ⟨p, 0, none⟩), .string ⟨#[117, 110, 116, 105, 108]⟩] w fun e w' => e = .returned (.bool (tkB wUntil L)) ∧ Rd 64 w' p B (tkL wUntil L) f ∧ Trn p w w' := take_any wUntil p B L f w h

theorem take_wTimes (p B : Nat) (L : List ByteArray) (f : Bool) (w : World) (h : Rd 64 w p B L f) :
    Calls Tryz.prog 88 #[.pointer (some ⟨p, 0, none⟩), .string ⟨#[116, 105, 109, 101, 115]⟩] w fun e w' => e = .returned (.bool (tkB wTimes L)) ∧ Rd 64 w' p B (tkL wTimes L) f ∧ Trn p w w' := take_any wTimes p B L f w h

theorem take_wOn (p B : Nat) (L : List ByteArray) (f : Bool) (w : World) (h : Rd 64 w p B L f) :
    Calls Tryz.prog 88 #[.pointer (some ⟨p, 0, none⟩), .string ⟨#[111, 110]⟩] w fun e w' => e = .returned (.bool (tkB wOn L)) ∧ Rd 64 w' p B (tkL wOn L) f ∧ Trn p w w' := take_any wOn p B L f w h

theorem take_wDates (p B : Nat) (L : List ByteArray) (f : Bool) (w : World) (h : Rd 64 w p B L f) :
    Calls Tryz.prog 88 #[.pointer (some ⟨p, 0, none⟩), .string ⟨#[100, 97, 116, 101, 115]⟩] w fun e w' => e = .returned (.bool (tkB wDates L)) ∧ Rd 64 w' p B (tkL wDates L) f ∧ Trn p w w' := take_any wDates p B L f w h

theorem take_wSkip (p B : Nat) (L : List ByteArray) (f : Bool) (w : World) (h : Rd 64 w p B L f) :
    Calls Tryz.prog 88 #[.pointer (some ⟨p, 0, none⟩), .string ⟨#[115, 107, 105, 112]⟩] w fun e w' => e = .returned (.bool (tkB wSkip L)) ∧ Rd 64 w' p B (tkL wSkip L) f ∧ Trn p w w' := take_any wSkip p B L f w h

theorem goes_word {O : Option Rul} {b : Bool} {s : ByteArray} {L : List ByteArray} {P : List ByteArray → Option Rul} (h : Goes O b (if tkB s L = true then P L.tail else none)) : Goes O (b || !tkB s L) (P (tkL s L)) := by
  unfold Goes tkL at *
  cases b
  · cases hc : tkB s L
    · rw [hc] at h; exact h
    · rw [hc] at h; exact h
  · exact h
theorem goes_opt {O : Option Rul} {b : Bool} {s : ByteArray} {L : List ByteArray} {P Q : List ByteArray → Option Rul} (h : Goes O b (if tkB s L = true then P L.tail else Q L)) : (tkB s L = true → Goes O b (P (tkL s L))) ∧ (tkB s L = false → Goes O b (Q (tkL s L))) := by
  refine ⟨fun e => ?_, fun e => ?_⟩
  · unfold tkL
    rw [e] at h ⊢
    exact h
  · unfold tkL
    rw [e] at h ⊢
    exact h

/-- How it goes on behind a count: it is not nought. -/
def P5c (L : List ByteArray) (r : Rul) : Option Rul := if r.c = 0 then none else P5 L r
theorem goes_times {O : Option Rul} {b : Bool} {L : List ByteArray} {r : Rul} (h : Goes O b (P4a L r)) : Goes O b (match rdO nm L with | some k => P5c L.tail { r with c := k } | none => none) := h
theorem goes_c0 {O : Option Rul} {L : List ByteArray} {r : Rul} {k : Int} {q : Option Rul} (hk : k = 0) (h : Goes O false (P5c L { r with c := k })) : Goes O true q := by
  subst hk
  exact h
theorem goes_c1 {O : Option Rul} {L : List ByteArray} {r : Rul} {k : Int} (hk : k ≠ 0) (h : Goes O false (P5c L { r with c := k })) : Goes O false (P5 L { r with c := k }) := by
  have e : P5c L { r with c := k } = P5 L { r with c := k } := if_neg hk
  rwa [e] at h

/-- A rule as a value, its rows at or above lo. -/
def RulI (w : World) (lo : Nat) (r : Rul) (v : Value) : Prop := ∃ (A B C : Option Addr) (a b c : Nat), v = .agg #[.int .i64 r.u, .int .i64 r.e, .int .i64 r.f, .int .i64 r.t, .int .i64 r.c, .slice A r.wd.length a, .slice B r.da.length b, .int .i64 r.n, .slice C r.sk.length c] ∧ IR w lo A r.wd ∧ IR w lo B r.da ∧ IR w lo C r.sk
theorem RulI.at_ {w : World} {lo : Nat} {r : Rul} {v : Value} (h : RulI w lo r v) : RulAt w r v := by
  obtain ⟨A, B, C, a, b, c, rfl, h1, h2, h3⟩ := h
  exact ⟨⟨A, B, C, a, b, c, rfl, h1.ints, h2.ints, h3.ints, (by have := h1.1; unfold maxLen; omega), (by have := h2.1; unfold maxLen; omega), (by have := h3.1; unfold maxLen; omega)⟩⟩

theorem RS.len {w0 w : World} {p : Nat} {L : List ByteArray} {f : Bool} {r : Rul} (h : RS w0 w p L f r) : L.length ≤ 4294967296 := by
  obtain ⟨⟨_, _, c, _, _, _, k4, k5, _⟩, _, _, _⟩ := h.rd
  omega
theorem RS.two {w0 w : World} {p : Nat} {L : List ByteArray} {f : Bool} {r : Rul} (h : RS w0 w p L f r) : w0.heap.size + 2 ≤ w.heap.size := h.at_.2.2.2.1

theorem nine_set {W : World} {g : Nat} {T : TypeId} {q0 q1 q2 q3 q4 q5 q6 q7 q8 v0 v1 v2 v3 v4 v5 v6 v7 v8 : Value} (h : Blk W g T #[q0, q1, q2, q3, q4, q5, q6, q7, q8]) : Blk (((((((((W.setCell ⟨g, 0, none⟩ v0).setCell ⟨g, 1, none⟩ v1).setCell ⟨g, 2, none⟩ v2).setCell ⟨g, 3, none⟩ v3).setCell ⟨g, 4, none⟩ v4).setCell ⟨g, 5, none⟩ v5).setCell ⟨g, 6, none⟩ v6).setCell ⟨g, 7, none⟩ v7).setCell ⟨g, 8, none⟩ v8) g T #[v0, v1, v2, v3, v4, v5, v6, v7, v8] := by
  have h1 : Blk (W.setCell ⟨g, 0, none⟩ v0) g T #[v0, q1, q2, q3, q4, q5, q6, q7, q8] := h.set_ 0 v0
  have h2 : Blk ((W.setCell ⟨g, 0, none⟩ v0).setCell ⟨g, 1, none⟩ v1) g T #[v0, v1, q2, q3, q4, q5, q6, q7, q8] := h1.set_ 1 v1
  have h3 : Blk (((W.setCell ⟨g, 0, none⟩ v0).setCell ⟨g, 1, none⟩ v1).setCell ⟨g, 2, none⟩ v2) g T #[v0, v1, v2, q3, q4, q5, q6, q7, q8] := h2.set_ 2 v2
  have h4 : Blk ((((W.setCell ⟨g, 0, none⟩ v0).setCell ⟨g, 1, none⟩ v1).setCell ⟨g, 2, none⟩ v2).setCell ⟨g, 3, none⟩ v3) g T #[v0, v1, v2, v3, q4, q5, q6, q7, q8] := h3.set_ 3 v3
  have h5 : Blk (((((W.setCell ⟨g, 0, none⟩ v0).setCell ⟨g, 1, none⟩ v1).setCell ⟨g, 2, none⟩ v2).setCell ⟨g, 3, none⟩ v3).setCell ⟨g, 4, none⟩ v4) g T #[v0, v1, v2, v3, v4, q5, q6, q7, q8] := h4.set_ 4 v4
  have h6 : Blk ((((((W.setCell ⟨g, 0, none⟩ v0).setCell ⟨g, 1, none⟩ v1).setCell ⟨g, 2, none⟩ v2).setCell ⟨g, 3, none⟩ v3).setCell ⟨g, 4, none⟩ v4).setCell ⟨g, 5, none⟩ v5) g T #[v0, v1, v2, v3, v4, v5, q6, q7, q8] := h5.set_ 5 v5
  have h7 : Blk (((((((W.setCell ⟨g, 0, none⟩ v0).setCell ⟨g, 1, none⟩ v1).setCell ⟨g, 2, none⟩ v2).setCell ⟨g, 3, none⟩ v3).setCell ⟨g, 4, none⟩ v4).setCell ⟨g, 5, none⟩ v5).setCell ⟨g, 6, none⟩ v6) g T #[v0, v1, v2, v3, v4, v5, v6, q7, q8] := h6.set_ 6 v6
  have h8 : Blk ((((((((W.setCell ⟨g, 0, none⟩ v0).setCell ⟨g, 1, none⟩ v1).setCell ⟨g, 2, none⟩ v2).setCell ⟨g, 3, none⟩ v3).setCell ⟨g, 4, none⟩ v4).setCell ⟨g, 5, none⟩ v5).setCell ⟨g, 6, none⟩ v6).setCell ⟨g, 7, none⟩ v7) g T #[v0, v1, v2, v3, v4, v5, v6, v7, q8] := h7.set_ 7 v7
  have h9 : Blk (((((((((W.setCell ⟨g, 0, none⟩ v0).setCell ⟨g, 1, none⟩ v1).setCell ⟨g, 2, none⟩ v2).setCell ⟨g, 3, none⟩ v3).setCell ⟨g, 4, none⟩ v4).setCell ⟨g, 5, none⟩ v5).setCell ⟨g, 6, none⟩ v6).setCell ⟨g, 7, none⟩ v7).setCell ⟨g, 8, none⟩ v8) g T #[v0, v1, v2, v3, v4, v5, v6, v7, v8] := h8.set_ 8 v8
  exact h9
theorem IR.setg {w : World} {n i : Nat} {A : Option Addr} {l : List Int} {v : Value} (h : IR w (n + 2) A l) : IR (w.setCell ⟨n, i, none⟩ v) (n + 2) A l :=
  h.keep (by simp [World.setCell]) fun b h1 _ => Below.heap_setCell w _ v b (by simp only; omega)
theorem bl_setg {B i : Nat} {a w : World} {v : Value} (h : Below B a w) : Below B a (w.setCell ⟨B, i, none⟩ v) := h.trans (Below.set_up v (Nat.le_refl _))
theorem Trn.setg {p i : Nat} {w0 w : World} {v : Value} (h : Trn p w0 w) : Trn p w0 (w.setCell ⟨w0.heap.size, i, none⟩ v) := h.low (Below.set_up v (Nat.le_refl _))
theorem goes_th {O : Option Rul} {b : Bool} {L : List ByteArray} {r : Rul} (h : Goes O b (P5a L r)) : (thB L = true → Goes O b (match rdO nth L with | some k => P5b L.tail { r with n := k } | none => none)) ∧ (thB L = false → Goes O b (P5b L r)) := by
  unfold P5a at h
  refine ⟨fun e => ?_, fun e => ?_⟩
  · rw [if_pos e] at h; exact h
  · rw [if_neg (by rw [e]; decide)] at h; exact h
theorem nth_cases (x : ByteArray) : (nm (cutS x wTh) = none ∧ nth x = none) ∨ (nm (cutS x wTh) = some 0 ∧ nth x = none) ∨ ∃ v, v ≠ 0 ∧ nm (cutS x wTh) = some v ∧ nth x = some v := by
  unfold nth
  cases nm (cutS x wTh) with
  | none => exact .inl ⟨rfl, rfl⟩
  | some v =>
    by_cases hv : v = 0
    · subst hv; exact .inr (.inl ⟨rfl, rfl⟩)
    · exact .inr (.inr ⟨v, hv, rfl, if_neg hv⟩)
theorem goes_nth {O : Option Rul} {b : Bool} {L : List ByteArray} {P : Int → Option Rul} (h : Goes O b (match rdO nth L with | some k => P k | none => none)) :
    (nth (L.headD ⟨#[]⟩) = none → ∀ {q : Option Rul}, Goes O true q) ∧ (∀ v, nth (L.headD ⟨#[]⟩) = some v → Goes O (b || L.isEmpty) (P v)) := by
  cases L with
  | nil =>
    refine ⟨fun _ q => ?_, fun v hv => ?_⟩
    · unfold Goes at *
      cases b <;> exact h
    · unfold Goes at *
      cases b <;> exact h
  | cons x r =>
    refine ⟨fun e q => ?_, fun v hv => ?_⟩
    · have e2 : rdO nth (x :: r) = none := e
      rw [e2] at h
      unfold Goes at *
      cases b <;> exact h
    · have e2 : rdO nth (x :: r) = some v := hv
      rw [e2] at h
      unfold Goes at *
      cases b <;> exact h

set_option maxHeartbeats 6400000 in
set_option maxRecDepth 100000 in
theorem wkFn_any (x : ByteArray) (w : World) : Calls Tryz.prog 97 #[.string x] w fun e w' => ∃ k, e = .returned (.tuple #[.int .i64 k, .bool (wk x).isSome]) ∧ (∀ n, wk x = some n → k = n) ∧ Below w.heap.size w w' := by
  have HI := hide (fun g W hg => wdaysL_index g x W hg)
  have hc : (Lib.idxOfS wdaysL x < 0 ∧ wk x = none) ∨ (0 ≤ Lib.idxOfS wdaysL x ∧ wk x = some (Lib.idxOfS wdaysL x)) := by
    rcases (by omega : Lib.idxOfS wdaysL x < 0 ∨ 0 ≤ Lib.idxOfS wdaysL x) with h | h
    · exact .inl ⟨h, at1_no h⟩
    · exact .inr ⟨h, at1_yes h⟩
  generalize Lib.idxOfS wdaysL x = I at *
  rcases hc with ⟨hi, hw⟩ | ⟨hi, hw⟩
  all_goals
    rw [hw]
    have hi2 : decide (0 ≤ I) = decide (0 ≤ I) := rfl
    clear hw
    go_enter Tryz.func97, Tryz.ntmps97
    go_wp2_with (first | (go_at_call 99; with_reducible refine (weekdayWords_any _).mono ?_; rintro e w' ⟨rfl, rfl⟩) | (go_at_call 98; with_reducible refine (HI.out _ _ rfl).mono ?_; rintro e w' ⟨rfl, rfl⟩))
    go_returns
  · exact ⟨I, (by first | rfl | (simp; done) | (simp; omega)), fun n h => (by cases h), (by repeat (first | exact Below.refl _ _ | with_reducible refine bl_plus ?_ | with_reducible refine bl_alloc ?_ _ | with_reducible refine bl_drew ?_ | with_reducible refine bl_drewN ?_ _))⟩
  · exact ⟨I, (by first | rfl | (simp; done) | (simp; omega)), fun n h => (by cases h; rfl), (by repeat (first | exact Below.refl _ _ | with_reducible refine bl_plus ?_ | with_reducible refine bl_alloc ?_ _ | with_reducible refine bl_drew ?_ | with_reducible refine bl_drewN ?_ _))⟩
theorem dtFn_any (x : ByteArray) (w : World) (hx : x.size ≤ 2000) : Calls Tryz.prog 100 #[.string x] w fun e w' => ∃ k, e = .returned (.tuple #[.int .i64 k, .bool (dt x).isSome]) ∧ (∀ n, dt x = some n → k = n) ∧ Below w.heap.size w w' := by
  have HC := hide (fun W => readDate_any x W hx)
  rcases hd : dt x with _ | v
  · have hne := dt_none hd
    generalize dateR x.data.toList = O at *
    obtain ⟨O1, O2⟩ := O
    simp only at hne HC
    have e2 : (O2 == 0) = false := beq_eq_false_iff_ne.2 hne
    clear hd
    go_enter Tryz.func100, Tryz.ntmps100
    go_wp2_with (go_at_call 101; with_reducible refine (HC.out _).mono ?_; rintro e w' ⟨rfl, hbl⟩; obtain ⟨os2, n2, rfl⟩ := below_plus hbl; clear hbl)
    go_returns
    exact ⟨O1, by first | rfl | simp [hne], fun n h => (by cases h), (by repeat (first | exact Below.refl _ _ | with_reducible refine bl_plus ?_ | with_reducible refine bl_alloc ?_ _ | with_reducible refine bl_drew ?_ | with_reducible refine bl_drewN ?_ _))⟩
  · rw [dt_some hd] at HC
    clear hd
    go_enter Tryz.func100, Tryz.ntmps100
    go_wp2_with (go_at_call 101; with_reducible refine (HC.out _).mono ?_; rintro e w' ⟨rfl, hbl⟩; obtain ⟨os2, n2, rfl⟩ := below_plus hbl; clear hbl)
    go_returns
    exact ⟨v, rfl, fun n h => (by cases h; rfl), (by repeat (first | exact Below.refl _ _ | with_reducible refine bl_plus ?_ | with_reducible refine bl_alloc ?_ _ | with_reducible refine bl_drew ?_ | with_reducible refine bl_drewN ?_ _))⟩
theorem nmFn_any (x : ByteArray) (w : World) (hp : PowTab w) : Calls Tryz.prog 93 #[.string x] w fun e w' => ∃ k, e = .returned (.tuple #[.int .i64 k, .bool (nm x).isSome]) ∧ (∀ n, nm x = some n → k = n) ∧ Below w.heap.size w w' :=
  (plainNumber_any x w hp).mono fun e w' ⟨⟨k, h1, h2⟩, h3⟩ => ⟨k, h1, h2, h3⟩

theorem RS.start {p : Nat} {L : List ByteArray} {f : Bool} {w : World} (h : Rd 64 w p w.heap.size L f) : RS w ((w.alloc (.cells #[.int .i64 0, .int .i64 0, .int .i64 0, .int .i64 0, .int .i64 0, .slice none 0 0, .slice none 0 0, .int .i64 0, .slice none 0 0] 32)).alloc (.cells #[.int .i64 0, .int .i64 0, .int .i64 0, .int .i64 (-1), .int .i64 0, .slice none 0 0, .slice none 0 0, .int .i64 0, .slice none 0 0] 32)) p L f rul0 := by
  have hb : Below w.heap.size w ((w.alloc (.cells #[.int .i64 0, .int .i64 0, .int .i64 0, .int .i64 0, .int .i64 0, .slice none 0 0, .slice none 0 0, .int .i64 0, .slice none 0 0] 32)).alloc (.cells #[.int .i64 0, .int .i64 0, .int .i64 0, .int .i64 (-1), .int .i64 0, .slice none 0 0, .slice none 0 0, .int .i64 0, .slice none 0 0] 32)) := (by repeat (first | exact Below.refl _ _ | with_reducible refine bl_plus ?_ | with_reducible refine bl_alloc ?_ _ | with_reducible refine bl_drew ?_ | with_reducible refine bl_drewN ?_ _))
  refine ⟨h.below hb, ⟨none, none, none, 0, 0, 0, ?_, IR.nil, IR.nil, IR.nil⟩, ⟨_, _, _, _, _, _, _, _, _, (Blk.new w _ _).alloc _⟩, Trn.of_below hb⟩
  have := Blk.new (w.alloc (.cells #[.int .i64 0, .int .i64 0, .int .i64 0, .int .i64 0, .int .i64 0, .slice none 0 0, .slice none 0 0, .int .i64 0, .slice none 0 0] 32)) 32 #[.int .i64 0, .int .i64 0, .int .i64 0, .int .i64 (-1), .int .i64 0, .slice none 0 0, .slice none 0 0, .int .i64 0, .slice none 0 0]
  rw [World.size_alloc] at this
  exact this

set_option maxHeartbeats 6400000 in
set_option maxRecDepth 100000 in
theorem ruleP_any (p : Nat) (L0 : List ByteArray) (f0 : Bool) (w : World) (PO : Ending → World → Prop) (h : Rd 64 w p w.heap.size L0 f0) (hP : ∀ w', Trn p w w' → PowTab w')
    (hPO : ∀ (w' : World) (L : List ByteArray) (f : Bool) (r : Rul) (v : Value), Goes (parseR L0) f (some r) → RulI w' (w.heap.size + 2) r v → Rd 64 w' p w.heap.size L f → Trn p w w' → PO (.returned v) w') :
    Calls Tryz.prog 27 #[.pointer (some ⟨p, 0, none⟩)] w PO := by
  have HPO := hide hPO
  have HP := hide hP
  have hpw : p < w.heap.size := h.lt
  have hpg : ¬ p = w.heap.size + 1 := by omega
  have hpg2 : ¬ w.heap.size + 1 = p := by omega
  have hpg3 : ¬ p = w.heap.size := by omega
  have hpg4 : ¬ w.heap.size = p := by omega
  have HNU := hide (fun W L f (h : Rd 64 W p w.heap.size L f) (ht : Trn p w W) => numberP_any p w.heap.size L f W h (fun w' hw => HP.out w' (ht.trans hw)))
  have HDA := hide (fun W L f (h : Rd 64 W p w.heap.size L f) => dayP_any p w.heap.size L f W h)
  have HUN := hide (fun W ev L f (h : Rd 64 W p w.heap.size L f) => unit_any ev p w.heap.size L f W h)
  have R0 := hide (RS.start h)
  have G1 := hide (goes_start L0)
  clear h hPO hP
  generalize parseR L0 = O at *
  go_enter Tryz.func27, Tryz.ntmps27
  go_upto_region 5 with (first
    | (go_at_call 88; with_reducible refine (take_wEvery _ _ _ _ _ R0.out.rd).mono ?_; rintro e W1 ⟨rfl, hrd, htr⟩; obtain ⟨a1, a2, a3, a4, a5, a6, a7, a8, a9, a10, a11, a12⟩ := (R0.out.call hrd htr).at_; have R1 := hide ((R0.out.call hrd htr).flag (!tkB wEvery L0)); clear hrd htr)
    | (go_at_call 89; with_reducible refine (HNU.out _ _ _ R1.out.rd R1.out.trn).mono ?_; rintro e W2 ⟨k2, rfl, hrd, htr, hk⟩; obtain ⟨a1, a2, a3, a4, a5, a6, a7, a8, a9, a10, a11, a12⟩ := (R1.out.call hrd htr).at_; have R2 := hide ((R1.out.call hrd htr).set_e k2); have G2 := hide (goes_read (o := rdO nm (tkL wEvery L0)) (P := fun k => P1 (tkL wEvery L0).tail { rul0 with e := k }) G1.out k2 hk); clear hrd htr hk)
    | (go_at_call 90; with_reducible refine (HUN.out _ k2 _ _ R2.out.rd).mono ?_; rintro e W3 ⟨k3, rfl, hrd, htr, hk⟩; obtain ⟨a1, a2, a3, a4, a5, a6, a7, a8, a9, a10, a11, a12⟩ := (R2.out.call hrd htr).at_; have R3 := hide ((R2.out.call hrd htr).set_u k3); have G3 := hide (goes_read (o := rdO (un k2) (tkL wEvery L0).tail) (P := fun k => P2 (tkL wEvery L0).tail.tail { rul0 with e := k2, u := k }) G2.out k3 hk); clear hrd htr hk))
  have hX : ∃ (L : List ByteArray) (f : Bool) (r : Rul), Hid (RS w (W3.setCell ⟨w.heap.size + 1, 0, none⟩ (.int .i64 k3)) p L f r) ∧ Hid (Goes O f (P2 L r)) := ⟨_, _, _, R3, G3⟩
  generalize W3.setCell ⟨w.heap.size + 1, 0, none⟩ (.int .i64 k3) = WA at *
  obtain ⟨LA, fA, rA, RA, GA⟩ := hX
  clear R0 R1 R2 R3 G1 G2 G3
  (try clear a1 a2 a3 a4 a5 a6 a7 a8 a9 a10 a11 a12)
  go_cut [] from 21 to 32 (fun wx => ∃ (W : World) (L : List ByteArray) (f : Bool) (r : Rul), W = wx ∧ Hid (RS w W p L f r) ∧ Hid (Goes O f (P2a L r)))
  case first =>
    obtain ⟨a1, a2, a3, a4, a5, a6, a7, a8, a9, a10, a11, a12⟩ := RA.out.at_
    cases fA
    · go_wp2_with (go_at_call 88; with_reducible refine (take_wFrom _ _ _ _ _ RA.out.rd).mono ?_; rintro e WB ⟨rfl, hrd, htr⟩; (try clear a1 a2 a3 a4 a5 a6 a7 a8 a9 a10 a11 a12); obtain ⟨a1, a2, a3, a4, a5, a6, a7, a8, a9, a10, a11, a12⟩ := (RA.out.call hrd htr).at_; have RB := hide (RA.out.call hrd htr); clear hrd htr)
      go_meet
      exact ⟨_, tkL wFrom LA, !tkB wFrom LA, rA, rfl, hide (RB.out.flag _), hide (goes_word (P := fun L => P2a L rA) GA.out)⟩
    · go_wp2
      go_meet
      exact ⟨_, LA, true, rA, rfl, hide (RA.out.flag true), hide (Goes.bad GA.out)⟩
  case rest =>
    clear RA GA
    obtain ⟨WB, LB, fB, rB, rfl, RB, GB⟩ := hcut
    go_upto_if 37 with (first | (go_at_call 91; with_reducible refine (HDA.out _ _ _ RB.out.rd).mono ?_; rintro e WC ⟨kC, rfl, hrd, htr, hk⟩; (try clear a1 a2 a3 a4 a5 a6 a7 a8 a9 a10 a11 a12); obtain ⟨a1, a2, a3, a4, a5, a6, a7, a8, a9, a10, a11, a12⟩ := (RB.out.call hrd htr).at_; have RC := hide ((RB.out.call hrd htr).set_f kC); have GC : Hid (Goes O (fB || (rdO dt LB).isNone) (P3 LB.tail { rB with f := kC })) := hide (goes_read (o := rdO dt LB) (P := fun k => P3 LB.tail { rB with f := k }) GB.out kC hk); clear hrd htr hk) | (go_at_call 88; with_reducible refine (take_wUntil _ _ _ _ _ RC.out.rd).mono ?_; rintro e WD ⟨rfl, hrd, htr⟩; (try clear a1 a2 a3 a4 a5 a6 a7 a8 a9 a10 a11 a12); obtain ⟨a1, a2, a3, a4, a5, a6, a7, a8, a9, a10, a11, a12⟩ := (RC.out.call hrd htr).at_; have RD := hide (RC.out.call hrd htr); clear hrd htr))
    generalize ({ rB with f := kC } : Rul) = rC at *
    generalize (fB || (rdO dt LB).isNone) = fC at *
    generalize LB.tail = LC at *
    have HO := hide (goes_opt (s := wUntil) (L := LC) (P := fun L => P3a L rC) (Q := fun L => P4 L rC) GC.out)
    generalize tkB wUntil LC = bd at *
    generalize tkL wUntil LC = LD at *
    clear GC
    clear RB GB RC
    (try clear a1 a2 a3 a4 a5 a6 a7 a8 a9 a10 a11 a12)
    go_cut [] from 38 to 40 (fun wx => ∃ (W : World) (L : List ByteArray) (f : Bool) (r : Rul), W = wx ∧ Hid (RS w W p L f r) ∧ Hid (Goes O f (P4 L r)))
    case first =>
      obtain ⟨a1, a2, a3, a4, a5, a6, a7, a8, a9, a10, a11, a12⟩ := RD.out.at_
      cases bd
      · go_wp2
        go_meet
        exact ⟨_, LD, fC, rC, rfl, RD, hide (HO.out.2 (by trivial))⟩
      · have GD := hide (HO.out.1 (by trivial))
        go_wp2_with (go_at_call 91; with_reducible refine (HDA.out _ _ _ RD.out.rd).mono ?_; rintro e WE ⟨kE, rfl, hrd, htr, hk⟩; (try clear a1 a2 a3 a4 a5 a6 a7 a8 a9 a10 a11 a12); obtain ⟨a1, a2, a3, a4, a5, a6, a7, a8, a9, a10, a11, a12⟩ := (RD.out.call hrd htr).at_; have RE := hide ((RD.out.call hrd htr).set_t kE); have GE : Hid (Goes O (fC || (rdO dt LD).isNone) (P4 LD.tail { rC with t := kE })) := hide (goes_read (o := rdO dt LD) (P := fun k => P4 LD.tail { rC with t := k }) GD.out kE hk); clear hrd htr hk)
        go_meet
        exact ⟨_, _, _, _, rfl, RE, GE⟩
    case rest =>
      clear RD HO
      obtain ⟨WB, LB, fB, rB, rfl, RB, GB⟩ := hcut
      obtain ⟨a1, a2, a3, a4, a5, a6, a7, a8, a9, a10, a11, a12⟩ := RB.out.at_
      go_upto_if 42 with (go_at_call 88; with_reducible refine (take_wTimes _ _ _ _ _ RB.out.rd).mono ?_; rintro e WD ⟨rfl, hrd, htr⟩; (try clear a1 a2 a3 a4 a5 a6 a7 a8 a9 a10 a11 a12); obtain ⟨a1, a2, a3, a4, a5, a6, a7, a8, a9, a10, a11, a12⟩ := (RB.out.call hrd htr).at_; have RD := hide (RB.out.call hrd htr); clear hrd htr)
      have HO := hide (goes_opt (s := wTimes) (L := LB) (P := fun L => P4a L rB) (Q := fun L => P5 L rB) GB.out)
      generalize tkB wTimes LB = bd at *
      generalize tkL wTimes LB = LD at *
      clear GB
      clear RB
      (try clear a1 a2 a3 a4 a5 a6 a7 a8 a9 a10 a11 a12)
      go_cut [] from 43 to 57 (fun wx => ∃ (W : World) (L : List ByteArray) (f : Bool) (r : Rul), W = wx ∧ Hid (RS w W p L f r) ∧ Hid (Goes O f (P5 L r)))
      case first =>
        obtain ⟨a1, a2, a3, a4, a5, a6, a7, a8, a9, a10, a11, a12⟩ := RD.out.at_
        cases bd
        · go_wp2
          go_meet
          exact ⟨_, LD, fB, rB, rfl, RD, hide (HO.out.2 (by trivial))⟩
        · have GD := hide (goes_times (HO.out.1 (by trivial)))
          go_upto_region 11 with (go_at_call 89; with_reducible refine (HNU.out _ _ _ RD.out.rd RD.out.trn).mono ?_; rintro e WE ⟨kE, rfl, hrd, htr, hk⟩; (try clear a1 a2 a3 a4 a5 a6 a7 a8 a9 a10 a11 a12); obtain ⟨a1, a2, a3, a4, a5, a6, a7, a8, a9, a10, a11, a12⟩ := (RD.out.call hrd htr).at_; have RE := hide ((RD.out.call hrd htr).set_c kE); have GE : Hid (Goes O (fB || (rdO nm LD).isNone) (P5c LD.tail { rB with c := kE })) := hide (goes_read (o := rdO nm LD) (P := fun k => P5c LD.tail { rB with c := k }) GD.out kE hk); clear hrd htr hk)
          generalize (fB || (rdO nm LD).isNone) = fE at *
          rcases (by omega : kE = 0 ∨ kE ≠ 0) with rfl | hk0
          · cases fE
            · go_wp2
              go_meet
              exact ⟨_, LD.tail, true, _, rfl, hide (RE.out.flag true), hide (goes_c0 rfl GE.out)⟩
            · go_wp2
              go_meet
              exact ⟨_, LD.tail, true, _, rfl, hide (RE.out.flag true), hide (Goes.bad GE.out)⟩
          · have hk1 : (kE == 0) = false := beq_eq_false_iff_ne.2 hk0
            cases fE
            · go_wp2
              go_meet
              exact ⟨_, LD.tail, false, _, rfl, hide (RE.out.flag false), hide (goes_c1 hk0 GE.out)⟩
            · go_wp2
              go_meet
              exact ⟨_, LD.tail, true, _, rfl, hide (RE.out.flag true), hide (Goes.bad GE.out)⟩
      case rest =>
        clear RD HO
        obtain ⟨WB, LB, fB, rB, rfl, RB, GB⟩ := hcut
        obtain ⟨a1, a2, a3, a4, a5, a6, a7, a8, a9, a10, a11, a12⟩ := RB.out.at_
        go_upto_if 59 with (go_at_call 88; with_reducible refine (take_wOn _ _ _ _ _ RB.out.rd).mono ?_; rintro e WD ⟨rfl, hrd, htr⟩; (try clear a1 a2 a3 a4 a5 a6 a7 a8 a9 a10 a11 a12); obtain ⟨a1, a2, a3, a4, a5, a6, a7, a8, a9, a10, a11, a12⟩ := (RB.out.call hrd htr).at_; have RD := hide (RB.out.call hrd htr); clear hrd htr)
        have HO := hide (goes_opt (s := wOn) (L := LB) (P := fun L => P5a L rB) (Q := fun L => P6 L rB) GB.out)
        generalize tkB wOn LB = bd at *
        generalize tkL wOn LB = LD at *
        clear GB
        clear RB
        (try clear a1 a2 a3 a4 a5 a6 a7 a8 a9 a10 a11 a12)
        go_cut [] from 60 to 101 (fun wx => ∃ (W : World) (L : List ByteArray) (f : Bool) (r : Rul), W = wx ∧ Hid (RS w W p L f r) ∧ Hid (Goes O f (P6 L r)))
        case first =>
          obtain ⟨a1, a2, a3, a4, a5, a6, a7, a8, a9, a10, a11, a12⟩ := RD.out.at_
          cases bd
          · go_wp2
            go_meet
            exact ⟨_, LD, fB, rB, rfl, RD, hide (HO.out.2 (by trivial))⟩
          · have GD := hide (HO.out.1 (by trivial))
            have HTB := hide (goes_th GD.out)
            clear HO GD
            go_upto_region 13 with fail
            go_cut [74] from 60 to 74 (fun s wx => s = .bool (thB LD) ∧ WD = wx)
            case first =>
              obtain ⟨⟨b, o, c, k1, k2, k3, k4, k5, k6⟩, k7, k8, k9⟩ := RD.out.rd
              have hbb : b < WD.heap.size := by omega
              have c0 : WD.cell? ⟨p, 0, none⟩ = some (.slice (some ⟨b, o, none⟩) LD.length c) := k1.cell 0
              cases LD with
              | nil =>
                have c0' : WD.cell? ⟨p, 0, none⟩ = some (.slice (some ⟨b, o, none⟩) 0 c) := c0
                clear c0 k1 k2 k3 k4 k5 k6 k7 k8 k9
                go_wp2
                go_meet
                exact ⟨rfl, rfl⟩
              | cons x r =>
                have c0' : WD.cell? ⟨p, 0, none⟩ = some (.slice (some ⟨b, o, none⟩) (r.length + 1) c) := c0
                have d0 : WD.cell? ⟨b, o, none⟩ = some (.string x) := k6 0 (by simp)
                have HSF := hide (fun W => Tryz.hasSuffix_any x ⟨#[116, 104]⟩ W (by have := k9 x (by simp); omega))
                rw [show Lib.hasSuffix x.data.toList (⟨#[116, 104]⟩ : ByteArray).data.toList = thB (x :: r) from rfl] at HSF
                generalize thB (x :: r) = bt at *
                clear c0 k1 k2 k3 k4 k5 k6 k7 k8 k9
                go_wp2_with (go_at_call 92; with_reducible refine (HSF.out _).mono ?_; rintro e w' ⟨rfl, rfl⟩)
                go_meet
                exact ⟨rfl, rfl⟩
            case rest =>
              obtain ⟨rfl, rfl⟩ := hcut
              have hsz : (LD.headD ⟨#[]⟩).size ≤ 2000 := by
                cases LD with
                | nil => decide
                | cons x r => exact RD.out.rd.sz x (by simp)
              have HN := hide (next_any p w.heap.size LD fB WD RD.out.rd)
              generalize hth : thB LD = bt at *
              clear hth
              go_upto_if 74 with fail
              go_cut [] from 76 to 98 (fun wx => ∃ (W : World) (L : List ByteArray) (f : Bool) (r : Rul), W = wx ∧ Hid (RS w W p L f r) ∧ Hid (Goes O f (P5b L r)))
              case first =>
                cases bt
                · go_wp2
                  go_meet
                  exact ⟨_, LD, fB, rB, rfl, RD, hide (HTB.out.2 (by trivial))⟩
                · have GT := hide (goes_nth (P := fun k => P5b LD.tail { rB with n := k }) (HTB.out.1 (by trivial)))
                  clear HTB
                  have HTS := hide (fun W => Tryz.trimSuffix_any (LD.headD ⟨#[]⟩) ⟨#[116, 104]⟩ W (by omega))
                  rw [show (⟨(Lib.trimSuffix (LD.headD ⟨#[]⟩).data.toList (⟨#[116, 104]⟩ : ByteArray).data.toList).toArray⟩ : ByteArray) = cutS (LD.headD ⟨#[]⟩) wTh from rfl] at HTS
                  have hnc := nth_cases (LD.headD ⟨#[]⟩)
                  have HPN := hide (fun W hp => plainNumber_any (cutS (LD.headD ⟨#[]⟩) wTh) W hp)
                  generalize nth (LD.headD ⟨#[]⟩) = NO at *
                  generalize cutS (LD.headD ⟨#[]⟩) wTh = X at *
                  generalize LD.headD ⟨#[]⟩ = x at *
                  generalize (fB || LD.isEmpty) = f1 at *
                  clear hsz
                  rcases hnc with ⟨hn, rfl⟩ | ⟨hn, rfl⟩ | ⟨v, hv, hn, rfl⟩
                  · have HN2 := hide (show num X.data.toList = none from hn)
                    clear hn
                    cases f1
                    all_goals
                      go_wp2_with (first | (go_at_call 95; with_reducible refine (HN.out).mono ?_; rintro e WN ⟨rfl, hrd, htr⟩; (try clear a1 a2 a3 a4 a5 a6 a7 a8 a9 a10 a11 a12); obtain ⟨a1, a2, a3, a4, a5, a6, a7, a8, a9, a10, a11, a12⟩ := (RD.out.call hrd htr).at_; have RN := hide (RD.out.call hrd htr); clear hrd htr) | (go_at_call 94; with_reducible refine (HTS.out _).mono ?_; rintro e w' ⟨rfl, rfl⟩) | (go_at_call 93; with_reducible refine (HPN.out _ (HP.out _ RN.out.trn)).mono ?_; intro e w' hno; obtain ⟨kv, rfl, hbl⟩ := hno.no HN2.out; obtain ⟨os2, n2, rfl⟩ := below_plus hbl; clear hbl hno))
                      go_meet
                      exact ⟨_, LD.tail, true, _, rfl, hide (((RN.out.flag true).set_n kv).plus os2 n2), hide (GT.out.1 (by trivial) (q := P5b LD.tail _))⟩
                  · have HN2 := hide (show num X.data.toList = some 0 from hn)
                    clear hn
                    cases f1
                    all_goals
                      go_wp2_with (first | (go_at_call 95; with_reducible refine (HN.out).mono ?_; rintro e WN ⟨rfl, hrd, htr⟩; (try clear a1 a2 a3 a4 a5 a6 a7 a8 a9 a10 a11 a12); obtain ⟨a1, a2, a3, a4, a5, a6, a7, a8, a9, a10, a11, a12⟩ := (RD.out.call hrd htr).at_; have RN := hide (RD.out.call hrd htr); clear hrd htr) | (go_at_call 94; with_reducible refine (HTS.out _).mono ?_; rintro e w' ⟨rfl, rfl⟩) | (go_at_call 93; with_reducible refine (HPN.out _ (HP.out _ RN.out.trn)).mono ?_; intro e w' hno; obtain ⟨rfl, hbl⟩ := hno.yes HN2.out; obtain ⟨os2, n2, rfl⟩ := below_plus hbl; clear hbl hno))
                      go_meet
                      exact ⟨_, LD.tail, true, _, rfl, hide (((RN.out.flag true).set_n 0).plus os2 n2), hide (GT.out.1 (by trivial) (q := P5b LD.tail _))⟩
                  · have HN2 := hide (show num X.data.toList = some v from hn)
                    have hv1 : (v == 0) = false := beq_eq_false_iff_ne.2 hv
                    clear hn
                    cases f1
                    · go_wp2_with (first | (go_at_call 95; with_reducible refine (HN.out).mono ?_; rintro e WN ⟨rfl, hrd, htr⟩; (try clear a1 a2 a3 a4 a5 a6 a7 a8 a9 a10 a11 a12); obtain ⟨a1, a2, a3, a4, a5, a6, a7, a8, a9, a10, a11, a12⟩ := (RD.out.call hrd htr).at_; have RN := hide (RD.out.call hrd htr); clear hrd htr) | (go_at_call 94; with_reducible refine (HTS.out _).mono ?_; rintro e w' ⟨rfl, rfl⟩) | (go_at_call 93; with_reducible refine (HPN.out _ (HP.out _ RN.out.trn)).mono ?_; intro e w' hno; obtain ⟨rfl, hbl⟩ := hno.yes HN2.out; obtain ⟨os2, n2, rfl⟩ := below_plus hbl; clear hbl hno))
                      go_meet
                      exact ⟨_, LD.tail, false, _, rfl, hide (((RN.out.flag false).set_n v).plus os2 n2), hide (GT.out.2 v (by trivial))⟩
                    · go_wp2_with (first | (go_at_call 95; with_reducible refine (HN.out).mono ?_; rintro e WN ⟨rfl, hrd, htr⟩; (try clear a1 a2 a3 a4 a5 a6 a7 a8 a9 a10 a11 a12); obtain ⟨a1, a2, a3, a4, a5, a6, a7, a8, a9, a10, a11, a12⟩ := (RD.out.call hrd htr).at_; have RN := hide (RD.out.call hrd htr); clear hrd htr) | (go_at_call 94; with_reducible refine (HTS.out _).mono ?_; rintro e w' ⟨rfl, rfl⟩) | (go_at_call 93; with_reducible refine (HPN.out _ (HP.out _ RN.out.trn)).mono ?_; intro e w' hno; obtain ⟨rfl, hbl⟩ := hno.yes HN2.out; obtain ⟨os2, n2, rfl⟩ := below_plus hbl; clear hbl hno))
                      go_meet
                      exact ⟨_, LD.tail, true, _, rfl, hide (((RN.out.flag true).set_n v).plus os2 n2), hide (Goes.bad (GT.out.2 v (by trivial)))⟩
              case rest =>
                clear RD HTB HN
                obtain ⟨WD, LD, fB, rB, rfl, RD, GD⟩ := hcut
                obtain ⟨a1, a2, a3, a4, a5, a6, a7, a8, a9, a10, a11, a12⟩ := RD.out.at_
                go_wp2_with (go_at_call 96; refine (list_any wk 97 p w.heap.size LD fB _ RD.out.rd (Go.Proofs.enters_of Tryz.func97 (by kernel_rfl) rfl) (fun x W _ _ => wkFn_any x W)).mono ?_; rintro e W9 ⟨A, c, rfl, hown, hrd, htr⟩; (try clear a1 a2 a3 a4 a5 a6 a7 a8 a9 a10 a11 a12); obtain ⟨a1, a2, a3, a4, a5, a6, a7, a8, a9, a10, a11, a12⟩ := (RD.out.call hrd htr).at_; obtain ⟨x5, x6, x8, b5, b6, b8⟩ := (RD.out.call hrd htr).rows; have RZ := hide ((RD.out.call hrd htr).set_wd A c (spn wk LD).1 ((IR.of_own hown (by have := spn_le wk LD; have := RD.out.len; omega)).low (RD.out.two))); have GZ := hide (goes_ifn GD.out); clear hrd htr hown)
                go_meet
                exact ⟨_, _, _, _, rfl, RZ, GZ⟩
        case rest =>
          clear RD HO
          obtain ⟨WB, LB, fB, rB, rfl, RB, GB⟩ := hcut
          obtain ⟨a1, a2, a3, a4, a5, a6, a7, a8, a9, a10, a11, a12⟩ := RB.out.at_
          go_upto_if 103 with (go_at_call 88; with_reducible refine (take_wDates _ _ _ _ _ RB.out.rd).mono ?_; rintro e WD ⟨rfl, hrd, htr⟩; (try clear a1 a2 a3 a4 a5 a6 a7 a8 a9 a10 a11 a12); obtain ⟨a1, a2, a3, a4, a5, a6, a7, a8, a9, a10, a11, a12⟩ := (RB.out.call hrd htr).at_; have RD := hide (RB.out.call hrd htr); clear hrd htr)
          have HO := hide (goes_opt (s := wDates) (L := LB) (P := fun L => (fun L r => if (spn nm L).1 = [] then none else P7 (spn nm L).2 { r with da := (spn nm L).1 }) L rB) (Q := fun L => P7 L rB) GB.out)
          generalize tkB wDates LB = bd at *
          generalize tkL wDates LB = LD at *
          clear GB
          clear RB
          (try clear a1 a2 a3 a4 a5 a6 a7 a8 a9 a10 a11 a12)
          go_cut [] from 104 to 106 (fun wx => ∃ (W : World) (L : List ByteArray) (f : Bool) (r : Rul), W = wx ∧ Hid (RS w W p L f r) ∧ Hid (Goes O f (P7 L r)))
          case first =>
            obtain ⟨a1, a2, a3, a4, a5, a6, a7, a8, a9, a10, a11, a12⟩ := RD.out.at_
            cases bd
            · go_wp2
              go_meet
              exact ⟨_, LD, fB, rB, rfl, RD, hide (HO.out.2 (by trivial))⟩
            · have GD := hide (HO.out.1 (by trivial))
              go_wp2_with (go_at_call 96; refine (list_any nm 93 p w.heap.size LD fB _ RD.out.rd (Go.Proofs.enters_of Tryz.func93 (by kernel_rfl) rfl) (fun x W _ ht => nmFn_any x W (HP.out W (RD.out.trn.trans ht)))).mono ?_; rintro e W9 ⟨A, c, rfl, hown, hrd, htr⟩; (try clear a1 a2 a3 a4 a5 a6 a7 a8 a9 a10 a11 a12); obtain ⟨a1, a2, a3, a4, a5, a6, a7, a8, a9, a10, a11, a12⟩ := (RD.out.call hrd htr).at_; obtain ⟨x5, x6, x8, b5, b6, b8⟩ := (RD.out.call hrd htr).rows; have RZ := hide ((RD.out.call hrd htr).set_da A c (spn nm LD).1 ((IR.of_own hown (by have := spn_le nm LD; have := RD.out.len; omega)).low (RD.out.two))); have GZ := hide (goes_ifn GD.out); clear hrd htr hown)
              go_meet
              exact ⟨_, _, _, _, rfl, RZ, GZ⟩
          case rest =>
            clear RD HO
            obtain ⟨WB, LB, fB, rB, rfl, RB, GB⟩ := hcut
            obtain ⟨a1, a2, a3, a4, a5, a6, a7, a8, a9, a10, a11, a12⟩ := RB.out.at_
            go_upto_if 108 with (go_at_call 88; with_reducible refine (take_wSkip _ _ _ _ _ RB.out.rd).mono ?_; rintro e WD ⟨rfl, hrd, htr⟩; (try clear a1 a2 a3 a4 a5 a6 a7 a8 a9 a10 a11 a12); obtain ⟨a1, a2, a3, a4, a5, a6, a7, a8, a9, a10, a11, a12⟩ := (RB.out.call hrd htr).at_; have RD := hide (RB.out.call hrd htr); clear hrd htr)
            have HO := hide (goes_opt (s := wSkip) (L := LB) (P := fun L => (fun L r => if (spn dt L).1 = [] then none else P8 (spn dt L).2 { r with sk := (spn dt L).1 }) L rB) (Q := fun L => P8 L rB) GB.out)
            generalize tkB wSkip LB = bd at *
            generalize tkL wSkip LB = LD at *
            clear GB
            clear RB
            (try clear a1 a2 a3 a4 a5 a6 a7 a8 a9 a10 a11 a12)
            go_cut [] from 109 to 111 (fun wx => ∃ (W : World) (L : List ByteArray) (f : Bool) (r : Rul), W = wx ∧ Hid (RS w W p L f r) ∧ Hid (Goes O f (P8 L r)))
            case first =>
              obtain ⟨a1, a2, a3, a4, a5, a6, a7, a8, a9, a10, a11, a12⟩ := RD.out.at_
              cases bd
              · go_wp2
                go_meet
                exact ⟨_, LD, fB, rB, rfl, RD, hide (HO.out.2 (by trivial))⟩
              · have GD := hide (HO.out.1 (by trivial))
                go_wp2_with (go_at_call 96; refine (list_any dt 100 p w.heap.size LD fB _ RD.out.rd (Go.Proofs.enters_of Tryz.func100 (by kernel_rfl) rfl) (fun x W hx _ => dtFn_any x W hx)).mono ?_; rintro e W9 ⟨A, c, rfl, hown, hrd, htr⟩; (try clear a1 a2 a3 a4 a5 a6 a7 a8 a9 a10 a11 a12); obtain ⟨a1, a2, a3, a4, a5, a6, a7, a8, a9, a10, a11, a12⟩ := (RD.out.call hrd htr).at_; obtain ⟨x5, x6, x8, b5, b6, b8⟩ := (RD.out.call hrd htr).rows; have RZ := hide ((RD.out.call hrd htr).set_sk A c (spn dt LD).1 ((IR.of_own hown (by have := spn_le dt LD; have := RD.out.len; omega)).low (RD.out.two))); have GZ := hide (goes_ifn GD.out); clear hrd htr hown)
                go_meet
                exact ⟨_, _, _, _, rfl, RZ, GZ⟩
            case rest =>
              clear RD HO
              obtain ⟨WB, LB, fB, rB, rfl, RB, GB⟩ := hcut
              go_upto_region 22 with fail
              go_cut [] from 112 to 126 (fun wx => ∃ (W : World) (L : List ByteArray) (f : Bool) (r : Rul), W = wx ∧ Hid (RS w W p L f r) ∧ Hid (Goes O f (some r)))
              case first =>
                obtain ⟨a1, a2, a3, a4, a5, a6, a7, a8, a9, a10, a11, a12⟩ := RB.out.at_
                obtain ⟨⟨b, o, c, k1, k2, k3, k4, k5, k6⟩, k7, k8, k9⟩ := RB.out.rd
                have c0 : WB.cell? ⟨p, 0, none⟩ = some (.slice (some ⟨b, o, none⟩) LB.length c) := k1.cell 0
                cases LB with
                | nil =>
                  have c0' : WB.cell? ⟨p, 0, none⟩ = some (.slice (some ⟨b, o, none⟩) 0 c) := c0
                  clear c0 k1 k2 k3 k4 k5 k6 k7 k8 k9
                  cases fB
                  · go_wp2
                    go_meet
                    exact ⟨_, [], false, rB, rfl, hide (RB.out.flag false), GB⟩
                  · go_wp2
                    go_meet
                    exact ⟨_, [], true, rB, rfl, hide (RB.out.flag true), GB⟩
                | cons x r =>
                  have c0' : WB.cell? ⟨p, 0, none⟩ = some (.slice (some ⟨b, o, none⟩) (r.length + 1) c) := c0
                  clear c0 k1 k2 k3 k4 k5 k6 k7 k8 k9
                  cases fB
                  · go_wp2
                    go_meet
                    exact ⟨_, x :: r, true, rB, rfl, hide (RB.out.flag true), GB⟩
                  · go_wp2
                    go_meet
                    exact ⟨_, x :: r, true, rB, rfl, hide (RB.out.flag true), GB⟩
              case rest =>
                clear RB GB
                obtain ⟨WB, LB, fB, rB, rfl, RB, GB⟩ := hcut
                obtain ⟨A1, A2, A3, c1, c2, c3, k1, i1, i2, i3⟩ := RB.out.blk
                obtain ⟨q0, q1, q2, q3, q4, q5, q6, q7, q8, k5⟩ := RB.out.res
                have hgl := k1.lt
                have hgl0 : w.heap.size < WB.heap.size := by omega
                obtain ⟨e0, e1, e2, e3, e4, e5, e6, e7, e8, ez, -⟩ := k1.nine
                obtain ⟨d0, d1, d2, d3, d4, d5, d6, d7, d8, dz, -⟩ := k5.nine
                have I1 := hide i1
                have I2 := hide i2
                have I3 := hide i3
                have K5 := hide k5
                clear k1 k5 i1 i2 i3
                go_wp2
                have hz : Blk (((((((((WB.setCell ⟨w.heap.size, 0, none⟩ (.int .i64 rB.u)).setCell ⟨w.heap.size, 1, none⟩ (.int .i64 rB.e)).setCell ⟨w.heap.size, 2, none⟩ (.int .i64 rB.f)).setCell ⟨w.heap.size, 3, none⟩ (.int .i64 rB.t)).setCell ⟨w.heap.size, 4, none⟩ (.int .i64 rB.c)).setCell ⟨w.heap.size, 5, none⟩ (.slice A1 rB.wd.length c1)).setCell ⟨w.heap.size, 6, none⟩ (.slice A2 rB.da.length c2)).setCell ⟨w.heap.size, 7, none⟩ (.int .i64 rB.n)).setCell ⟨w.heap.size, 8, none⟩ (.slice A3 rB.sk.length c3)) w.heap.size 32 #[.int .i64 rB.u, .int .i64 rB.e, .int .i64 rB.f, .int .i64 rB.t, .int .i64 rB.c, .slice A1 rB.wd.length c1, .slice A2 rB.da.length c2, .int .i64 rB.n, .slice A3 rB.sk.length c3] := nine_set K5.out
                have i1 : IR (((((((((WB.setCell ⟨w.heap.size, 0, none⟩ (.int .i64 rB.u)).setCell ⟨w.heap.size, 1, none⟩ (.int .i64 rB.e)).setCell ⟨w.heap.size, 2, none⟩ (.int .i64 rB.f)).setCell ⟨w.heap.size, 3, none⟩ (.int .i64 rB.t)).setCell ⟨w.heap.size, 4, none⟩ (.int .i64 rB.c)).setCell ⟨w.heap.size, 5, none⟩ (.slice A1 rB.wd.length c1)).setCell ⟨w.heap.size, 6, none⟩ (.slice A2 rB.da.length c2)).setCell ⟨w.heap.size, 7, none⟩ (.int .i64 rB.n)).setCell ⟨w.heap.size, 8, none⟩ (.slice A3 rB.sk.length c3)) (w.heap.size + 2) A1 rB.wd := (by repeat (first | with_reducible exact I1.out | with_reducible refine IR.setg ?_))
                have i2 : IR (((((((((WB.setCell ⟨w.heap.size, 0, none⟩ (.int .i64 rB.u)).setCell ⟨w.heap.size, 1, none⟩ (.int .i64 rB.e)).setCell ⟨w.heap.size, 2, none⟩ (.int .i64 rB.f)).setCell ⟨w.heap.size, 3, none⟩ (.int .i64 rB.t)).setCell ⟨w.heap.size, 4, none⟩ (.int .i64 rB.c)).setCell ⟨w.heap.size, 5, none⟩ (.slice A1 rB.wd.length c1)).setCell ⟨w.heap.size, 6, none⟩ (.slice A2 rB.da.length c2)).setCell ⟨w.heap.size, 7, none⟩ (.int .i64 rB.n)).setCell ⟨w.heap.size, 8, none⟩ (.slice A3 rB.sk.length c3)) (w.heap.size + 2) A2 rB.da := (by repeat (first | with_reducible exact I2.out | with_reducible refine IR.setg ?_))
                have i3 : IR (((((((((WB.setCell ⟨w.heap.size, 0, none⟩ (.int .i64 rB.u)).setCell ⟨w.heap.size, 1, none⟩ (.int .i64 rB.e)).setCell ⟨w.heap.size, 2, none⟩ (.int .i64 rB.f)).setCell ⟨w.heap.size, 3, none⟩ (.int .i64 rB.t)).setCell ⟨w.heap.size, 4, none⟩ (.int .i64 rB.c)).setCell ⟨w.heap.size, 5, none⟩ (.slice A1 rB.wd.length c1)).setCell ⟨w.heap.size, 6, none⟩ (.slice A2 rB.da.length c2)).setCell ⟨w.heap.size, 7, none⟩ (.int .i64 rB.n)).setCell ⟨w.heap.size, 8, none⟩ (.slice A3 rB.sk.length c3)) (w.heap.size + 2) A3 rB.sk := (by repeat (first | with_reducible exact I3.out | with_reducible refine IR.setg ?_))
                have hrd : Rd 64 (((((((((WB.setCell ⟨w.heap.size, 0, none⟩ (.int .i64 rB.u)).setCell ⟨w.heap.size, 1, none⟩ (.int .i64 rB.e)).setCell ⟨w.heap.size, 2, none⟩ (.int .i64 rB.f)).setCell ⟨w.heap.size, 3, none⟩ (.int .i64 rB.t)).setCell ⟨w.heap.size, 4, none⟩ (.int .i64 rB.c)).setCell ⟨w.heap.size, 5, none⟩ (.slice A1 rB.wd.length c1)).setCell ⟨w.heap.size, 6, none⟩ (.slice A2 rB.da.length c2)).setCell ⟨w.heap.size, 7, none⟩ (.int .i64 rB.n)).setCell ⟨w.heap.size, 8, none⟩ (.slice A3 rB.sk.length c3)) p w.heap.size LB fB := Rd.below RB.out.rd (by repeat (first | with_reducible exact Below.refl _ _ | with_reducible refine bl_setg ?_))
                have htr : Trn p w (((((((((WB.setCell ⟨w.heap.size, 0, none⟩ (.int .i64 rB.u)).setCell ⟨w.heap.size, 1, none⟩ (.int .i64 rB.e)).setCell ⟨w.heap.size, 2, none⟩ (.int .i64 rB.f)).setCell ⟨w.heap.size, 3, none⟩ (.int .i64 rB.t)).setCell ⟨w.heap.size, 4, none⟩ (.int .i64 rB.c)).setCell ⟨w.heap.size, 5, none⟩ (.slice A1 rB.wd.length c1)).setCell ⟨w.heap.size, 6, none⟩ (.slice A2 rB.da.length c2)).setCell ⟨w.heap.size, 7, none⟩ (.int .i64 rB.n)).setCell ⟨w.heap.size, 8, none⟩ (.slice A3 rB.sk.length c3)) := (by repeat (first | with_reducible exact RB.out.trn | with_reducible refine Trn.setg ?_))
                generalize (((((((((WB.setCell ⟨w.heap.size, 0, none⟩ (.int .i64 rB.u)).setCell ⟨w.heap.size, 1, none⟩ (.int .i64 rB.e)).setCell ⟨w.heap.size, 2, none⟩ (.int .i64 rB.f)).setCell ⟨w.heap.size, 3, none⟩ (.int .i64 rB.t)).setCell ⟨w.heap.size, 4, none⟩ (.int .i64 rB.c)).setCell ⟨w.heap.size, 5, none⟩ (.slice A1 rB.wd.length c1)).setCell ⟨w.heap.size, 6, none⟩ (.slice A2 rB.da.length c2)).setCell ⟨w.heap.size, 7, none⟩ (.int .i64 rB.n)).setCell ⟨w.heap.size, 8, none⟩ (.slice A3 rB.sk.length c3)) = WZ at *
                have HRD := hide hrd
                have HTR := hide htr
                have J1 := hide i1
                have J2 := hide i2
                have J3 := hide i3
                have HZ := hide hz
                clear hrd htr i1 i2 i3 hz
                refine bodyPost_ret (results_cell_row (P := Tryz.prog) (by rfl) _ WZ w.heap.size 32 #[.int .i64 rB.u, .int .i64 rB.e, .int .i64 rB.f, .int .i64 rB.t, .int .i64 rB.c, .slice A1 rB.wd.length c1, .slice A2 rB.da.length c2, .int .i64 rB.n, .slice A3 rB.sk.length c3] (0, 0) _ rfl HZ.out Tryz.underlying32 rfl (by kernel_rfl)) rfl ?_
                exact HPO.out _ LB fB rB _ GB.out ⟨A1, A2, A3, c1, c2, c3, rfl, J1.out, J2.out, J3.out⟩ HRD.out HTR.out

end Go.Proofs.YtjaoiehjhnmahaaGreatDoor
