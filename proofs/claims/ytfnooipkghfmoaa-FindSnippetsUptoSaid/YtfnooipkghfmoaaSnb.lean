/-
  WALKS: ContainsFunc at strings over any function; isWord; what is wrong with a part; its text; how many parts.
-/
import Derived.Test.YtfnooipkghfmoaaSna
import Derived.Test.YtfnooipkghfmoaaJnl
import Derived.Deep.QuietTactic
import Derived.BigQuiet
set_option linter.all false
namespace Go.Proofs.Ytfnooipkghfmoaa
open Go.RowKit Go.Lib

set_option maxHeartbeats 400000 in
theorem outside_any (n lo hi : Int) (w : World) :
    Calls Try.prog 12 #[.int .i64 n, .int .i64 lo, .int .i64 hi] w fun e w' => e = .returned (.bool (decide (n < lo ∨ hi < n))) ∧ w = w' := by
  by_cases h1 : n < lo
  · go_enter Try.func12, Try.ntmps12
    go_wp2
    go_ret
    exact ⟨by simp [h1], rfl⟩
  · by_cases h2 : hi < n
    · go_enter Try.func12, Try.ntmps12
      go_wp2
      go_ret
      exact ⟨by simp [h2], rfl⟩
    · go_enter Try.func12, Try.ntmps12
      go_wp2
      go_ret
      exact ⟨by simp; omega, rfl⟩
theorem outside_yes (n lo hi : Int) (w : World) (h : n < lo ∨ hi < n) :
    Calls Try.prog 12 #[.int .i64 n, .int .i64 lo, .int .i64 hi] w fun e w' => e = .returned (.bool true) ∧ w = w' :=
  (outside_any n lo hi w).mono fun _ _ ⟨he, hw⟩ => ⟨by rw [he, decide_eq_true h], hw⟩
theorem outside_no (n lo hi : Int) (w : World) (h1 : lo ≤ n) (h2 : n ≤ hi) :
    Calls Try.prog 12 #[.int .i64 n, .int .i64 lo, .int .i64 hi] w fun e w' => e = .returned (.bool false) ∧ w = w' :=
  (outside_any n lo hi w).mono fun _ _ ⟨he, hw⟩ => ⟨by rw [he, decide_eq_false (by omega)], hw⟩

theorem pl_drewN {w : World} {os : Array Obj} {n k : Nat} : (plus w os n).drewN k = plus w os (n + k) := rfl
/-- What IndexFunc says: the first place at which the function says yes, or -1. -/
def IdxIs (P : ByteArray → Bool) (ss : List ByteArray) (r : Int) : Prop := (∃ k : Nat, ∃ h : k < ss.length, r = k ∧ P ss[k] = true) ∨ (r = -1 ∧ ∀ x ∈ ss, P x = false)
def IdxOut (P : ByteArray → Bool) (ss : List ByteArray) (w : World) (e : Ending) (w' : World) : Prop := ∃ r : Int, e = .returned (.int .i64 r) ∧ IdxIs P ss r ∧ Below w.heap.size w w'

set_option maxHeartbeats 3200000 in
set_option maxRecDepth 100000 in
theorem indexFn_any (fid : FuncId) (cb : Array Value) (P : ByteArray → Bool) (A : Option Addr) (c : Nat) (ss : List ByteArray) (w : World) (hA : SsAt w A ss) (ent : ∀ args w, (callFunc fid args).run Try.prog w = .ok (.enter fid args) w)
    (hF : ∀ x ∈ ss, ∀ W, Below w.heap.size w W → Calls Try.prog fid (#[.string x] ++ cb) W fun e w' => e = .returned (.bool (P x)) ∧ Below W.heap.size W w') :
    Calls Try.prog 99 #[.slice A ss.length c, .func (.func fid) #[] cb] w (IdxOut P ss w) := by
  have hm := hA.1
  unfold maxLen at hm
  have HPO := hide (show ∀ (r : Int) w', IdxIs P ss r → Below w.heap.size w w' → IdxOut P ss w (.returned (.int .i64 r)) w' from fun r w' h1 h2 => ⟨r, rfl, h1, h2⟩)
  generalize IdxOut P ss w = PO at *
  have HA := hide hA
  have HF := hide hF
  clear hA hF
  go_enter Try.func99, Try.ntmps99
  go_wp2
  go_loopw [8] (fun i wr => ∃ (k : Nat) (os : Array Obj) (n : Nat), k ≤ ss.length ∧ i = .int .i64 k ∧ wr = plus w os n ∧ Hid (∀ j (h : j < ss.length), j < k → P ss[j] = false)) (fun i _ => ss.length - (RowKit.intOf i).toNat)
  case atStart => exact ⟨0, #[], _, Nat.zero_le _, rfl, plus_nil.symm, hide (fun j h hj => by omega)⟩
  case round =>
    obtain ⟨k, os, n, hk, rfl, rfl, HN⟩ := hrel
    by_cases hlt : k < ss.length
    · obtain ⟨b, o, rfl, hb, hv⟩ := HA.out.2 (by omega)
      have c0 := hv k hlt
      have HC := hide (fun W hbw => HF.out ss[k] (List.getElem_mem hlt) W hbw)
      have HY := hide (fun (h : P ss[k] = true) => (.inl ⟨k, hlt, rfl, h⟩ : IdxIs P ss k))
      have HNX := hide (fun (h : P ss[k] = false) j (hj : j < ss.length) (hjk : j < k + 1) => (by
        rcases Nat.lt_or_ge j k with g | g
        · exact HN.out j hj g
        · obtain rfl : j = k := by omega
          exact h : P ss[j] = false))
      clear hv HF HA HN
      generalize ss[k] = x at *
      cases hB : P x with
      | true =>
        rw [hB] at HC HY
        have HR := hide (HY.out rfl)
        clear HNX HY hB
        go_wp2_with (go_at_fn fid; refine (HC.out _ ?hbw).mono ?_; (case hbw => exact (by repeat (first | with_reducible exact Below.refl _ _ | with_reducible refine bl_plus ?_ | with_reducible refine bl_alloc ?_ _ | with_reducible refine bl_drew ?_ | with_reducible refine bl_drewN ?_ _))); rintro e w' ⟨rfl, hbl⟩; obtain ⟨os1, n1, rfl⟩ := below_plus hbl; clear hbl)
        exact HPO.out _ _ HR.out (by repeat (first | with_reducible exact Below.refl _ _ | with_reducible refine bl_plus ?_ | with_reducible refine bl_alloc ?_ _ | with_reducible refine bl_drew ?_ | with_reducible refine bl_drewN ?_ _))
      | false =>
        rw [hB] at HC HNX
        have HR := hide (HNX.out rfl)
        clear HNX HY hB
        go_wp2_with (go_at_fn fid; refine (HC.out _ ?hbw).mono ?_; (case hbw => exact (by repeat (first | with_reducible exact Below.refl _ _ | with_reducible refine bl_plus ?_ | with_reducible refine bl_alloc ?_ _ | with_reducible refine bl_drew ?_ | with_reducible refine bl_drewN ?_ _))); rintro e w' ⟨rfl, hbl⟩; obtain ⟨os1, n1, rfl⟩ := below_plus hbl; clear hbl)
        go_roundw
        case rel => exact ⟨k + 1, _, _, hlt, by go_num, by first | rfl | (simp only [plus_alloc, plus_plus, pl_drewN, plus_drew]; rfl), HR⟩
        case measure => simp [RowKit.intOf]; omega
    · obtain rfl : k = ss.length := by omega
      have HR := hide (show IdxIs P ss (-1) from .inr ⟨rfl, fun x hx => by
        obtain ⟨j, hj, rfl⟩ := List.mem_iff_getElem.1 hx
        exact HN.out j hj hj⟩)
      clear HF HA HN
      go_wp2
      exact HPO.out _ _ HR.out (by repeat (first | with_reducible exact Below.refl _ _ | with_reducible refine bl_plus ?_ | with_reducible refine bl_alloc ?_ _ | with_reducible refine bl_drew ?_ | with_reducible refine bl_drewN ?_ _))

set_option maxHeartbeats 1600000 in
theorem containsFn_any (fid : FuncId) (cb : Array Value) (P : ByteArray → Bool) (A : Option Addr) (c : Nat) (ss : List ByteArray) (w : World) (hA : SsAt w A ss) (ent : ∀ args w, (callFunc fid args).run Try.prog w = .ok (.enter fid args) w)
    (hF : ∀ x ∈ ss, ∀ W, Below w.heap.size w W → Calls Try.prog fid (#[.string x] ++ cb) W fun e w' => e = .returned (.bool (P x)) ∧ Below W.heap.size W w') :
    Calls Try.prog 66 #[.slice A ss.length c, .func (.func fid) #[] cb] w fun e w' => e = .returned (.bool (ss.any P)) ∧ Below w.heap.size w w' := by
  have HI := hide (indexFn_any fid cb P A c ss w hA ent hF)
  unfold IdxOut at HI
  have hdec : ∀ r, IdxIs P ss r → decide (0 ≤ r) = ss.any P := by
    intro r h
    rcases h with ⟨k, hk, rfl, hp⟩ | ⟨rfl, hp⟩
    · rw [decide_eq_true (by omega)]
      exact (List.any_eq_true.2 ⟨_, List.getElem_mem hk, hp⟩).symm
    · rw [decide_eq_false (by omega)]
      symm
      rw [List.any_eq_false]
      intro x hx
      rw [hp x hx]
      decide
  have HD := hide hdec
  generalize ss.any P = R at *
  clear hA hF hdec
  go_enter Try.func66, Try.ntmps66
  go_wp2_with (go_at_call 99; (with_reducible refine HI.out.mono ?_); rintro e w' ⟨r, rfl, hr, hbl⟩; have HR := hide (HD.out r hr); obtain ⟨os1, n1, rfl⟩ := below_plus hbl; clear hbl hr)
  go_ret
  exact ⟨ret_bool HR.out, (by repeat (first | with_reducible exact Below.refl _ _ | with_reducible refine bl_plus ?_ | with_reducible refine bl_alloc ?_ _ | with_reducible refine bl_drew ?_ | with_reducible refine bl_drewN ?_ _))⟩

set_option maxHeartbeats 1600000 in
set_option maxRecDepth 100000 in
theorem isWord_any (x : ByteArray) (w : World) (hx : x.size ≤ 1900000) :
    Calls Try.prog 43 #[.string x] w fun e w' => e = .returned (.bool (isWordS x)) ∧ Below w.heap.size w w' := by
  have HW := hide (fun w => words_any x w hx)
  have hcnt := wordsAt_count x
  have hS : (∃ y, wordsAt x 0 = [y] ∧ isWordS x = (y.t.toList == x.toList)) ∨ ((wordsAt x 0).length ≠ 1 ∧ isWordS x = false) := by
    unfold isWordS
    cases h : wordsAt x 0 with
    | nil => exact .inr ⟨by simp, rfl⟩
    | cons y l =>
      cases l with
      | nil => exact .inl ⟨y, rfl, rfl⟩
      | cons z l => exact .inr ⟨by simp, rfl⟩
  unfold WordsOut at HW
  generalize isWordS x = R at *
  generalize wordsAt x 0 = l at *
  rcases hS with ⟨y, rfl, rfl⟩ | ⟨h1, rfl⟩
  · obtain ⟨yt, yf, yu⟩ := y
    go_enter Try.func43, Try.ntmps43
    go_wp2_with (go_at_call 13; refine (HW.out _).mono ?_; rintro e w' ⟨A, c, rfl, hr, hbl⟩; obtain ⟨b, off, rfl, hlt, hc⟩ := hr (by simp); have e0 := (hc 0 (by simp)).1; simp only [List.getElem_cons_zero, Nat.zero_mul, Nat.add_zero, List.length_cons, List.length_nil] at e0 ⊢; have HBL := hide hbl; clear hbl hr hc)
    go_ret
    exact ⟨rfl, HBL.out⟩
  · have i1 : ((l.length : Int) == 1) = false := beq_eq_false_iff_ne.2 (by omega)
    go_enter Try.func43, Try.ntmps43
    go_wp2_with (go_at_call 13; refine (HW.out _).mono ?_; rintro e w' ⟨A, c, rfl, hr, hbl⟩; have HBL := hide hbl; clear hbl hr)
    go_ret
    exact ⟨rfl, HBL.out⟩

set_option maxHeartbeats 1600000 in
theorem notWord_any (x : ByteArray) (w : World) (hx : x.size ≤ 1900000) :
    Calls Try.prog 118 #[.string x] w fun e w' => e = .returned (.bool (!isWordS x)) ∧ Below w.heap.size w w' := by
  have HW := hide (isWord_any x · hx)
  generalize isWordS x = R at *
  go_enter Try.func118, Try.ntmps118
  go_wp2_with (go_at_call 43; refine (HW.out _).mono ?_; rintro e w' ⟨rfl, hbl⟩; obtain ⟨os1, n1, rfl⟩ := below_plus hbl; clear hbl)
  go_ret
  exact ⟨rfl, (by repeat (first | with_reducible exact Below.refl _ _ | with_reducible refine bl_plus ?_ | with_reducible refine bl_alloc ?_ _ | with_reducible refine bl_drew ?_ | with_reducible refine bl_drewN ?_ _))⟩

theorem Pq.err_cases (p : Pq) : (p.k < 0 ∨ 3 < p.k) ∧ p.err = 10 ∨ ((0 ≤ p.k ∧ p.k ≤ 3) ∧ ((p.ws.length = 0 ∧ p.err = 1) ∨ (p.ws.length ≠ 0 ∧ p.k ≠ 3 ∧ p.ws.length ≠ 1 ∧ p.err = 1) ∨
    (p.ws.length ≠ 0 ∧ (p.k = 3 ∨ (p.k ≠ 3 ∧ p.ws.length = 1)) ∧ p.err = if p.ws.any (fun x => !isWordS x) = true then 1 else 0))) := by
  unfold Pq.err
  by_cases h1 : p.k < 0 ∨ 3 < p.k
  · exact .inl ⟨h1, if_pos h1⟩
  rw [if_neg h1]
  refine .inr ⟨by omega, ?_⟩
  by_cases h2 : p.ws.length = 0
  · exact .inl ⟨h2, if_pos (.inl h2)⟩
  by_cases h3 : p.k ≠ 3 ∧ p.ws.length ≠ 1
  · exact .inr (.inl ⟨h2, h3.1, h3.2, if_pos (.inr (.inl h3))⟩)
  refine .inr (.inr ⟨h2, by omega, ?_⟩)
  by_cases h4 : p.ws.any (fun x => !isWordS x) = true
  · rw [if_pos h4, if_pos (.inr (.inr h4))]
  · rw [if_neg h4, if_neg (fun h => by rcases h with h | h | h <;> contradiction)]

set_option maxHeartbeats 3200000 in
set_option maxRecDepth 100000 in
theorem checkPart_any (p : Pq) (A : Option Addr) (c : Nat) (w : World) (hA : SsAt w A p.ws) (hs : ∀ x ∈ p.ws, x.size ≤ 1900000) :
    Calls Try.prog 94 #[.agg #[.int .i64 p.k, .slice A p.ws.length c]] w fun e w' => e = .returned (.int .i64 p.err) ∧ Below w.heap.size w w' := by
  have hm := hA.1
  unfold maxLen at hm
  have HCO := hide (fun W (hb : Below w.heap.size w W) => containsFn_any 118 #[] (fun x => !isWordS x) A c p.ws W (hA.below hb) (fun args w => Go.Proofs.enters_of Try.func118 (by kernel_rfl) rfl args w) (fun x hx W' _ => notWord_any x W' (hs x hx)))
  have hcs := p.err_cases
  generalize p.err = E at *
  generalize p.ws.any (fun x => !isWordS x) = R at *
  obtain ⟨k, ws⟩ := p
  simp only at hcs HCO hm ⊢
  clear hA hs
  rcases hcs with ⟨hk, rfl⟩ | ⟨⟨k0, k3⟩, ⟨h0, rfl⟩ | ⟨h0, hk3, h1, rfl⟩ | ⟨h0, hk1, hE⟩⟩
  · have HO := hide (fun w => outside_yes k 0 3 w hk)
    clear hk HCO
    go_enter Try.func94, Try.ntmps94
    go_wp2_with (go_at_call 12; refine (HO.out _).mono ?_; rintro e w' ⟨rfl, rfl⟩)
    go_ret
    exact ⟨rfl, (by repeat (first | with_reducible exact Below.refl _ _ | with_reducible refine bl_plus ?_ | with_reducible refine bl_alloc ?_ _ | with_reducible refine bl_drew ?_ | with_reducible refine bl_drewN ?_ _))⟩
  · have HO := hide (fun w => outside_no k 0 3 w k0 k3)
    have i0 : ((ws.length : Int) == 0) = true := by rw [beq_iff_eq]; omega
    clear HCO
    go_enter Try.func94, Try.ntmps94
    go_wp2_with (go_at_call 12; refine (HO.out _).mono ?_; rintro e w' ⟨rfl, rfl⟩)
    go_ret
    exact ⟨rfl, (by repeat (first | with_reducible exact Below.refl _ _ | with_reducible refine bl_plus ?_ | with_reducible refine bl_alloc ?_ _ | with_reducible refine bl_drew ?_ | with_reducible refine bl_drewN ?_ _))⟩
  · have HO := hide (fun w => outside_no k 0 3 w k0 k3)
    have i0 : ((ws.length : Int) == 0) = false := beq_eq_false_iff_ne.2 (by omega)
    have i1 : (k != 3) = true := by simpa using hk3
    have i2 : ((ws.length : Int) != 1) = true := bne_iff_ne.2 (by omega)
    clear HCO
    go_enter Try.func94, Try.ntmps94
    go_wp2_with (go_at_call 12; refine (HO.out _).mono ?_; rintro e w' ⟨rfl, rfl⟩)
    go_ret
    exact ⟨rfl, (by repeat (first | with_reducible exact Below.refl _ _ | with_reducible refine bl_plus ?_ | with_reducible refine bl_alloc ?_ _ | with_reducible refine bl_drew ?_ | with_reducible refine bl_drewN ?_ _))⟩
  · have HO := hide (fun w => outside_no k 0 3 w k0 k3)
    have i0 : ((ws.length : Int) == 0) = false := beq_eq_false_iff_ne.2 (by omega)
    have HE := hide hE
    clear hE
    rcases hk1 with rfl | ⟨hk3, h1⟩
    · cases R with
      | true =>
        have HE2 := hide (HE.out.trans (if_pos rfl))
        go_enter Try.func94, Try.ntmps94
        go_wp2_with (first | (go_at_call 12; refine (HO.out _).mono ?_; rintro e w' ⟨rfl, rfl⟩) | (go_at_call 66; refine (HCO.out _ ?hbw).mono ?_; (case hbw => exact (by repeat (first | with_reducible exact Below.refl _ _ | with_reducible refine bl_plus ?_ | with_reducible refine bl_alloc ?_ _ | with_reducible refine bl_drew ?_ | with_reducible refine bl_drewN ?_ _))); rintro e w' ⟨rfl, hbl⟩; obtain ⟨os1, n1, rfl⟩ := below_plus hbl; clear hbl))
        go_ret
        exact ⟨ret_int HE2.out.symm, (by repeat (first | with_reducible exact Below.refl _ _ | with_reducible refine bl_plus ?_ | with_reducible refine bl_alloc ?_ _ | with_reducible refine bl_drew ?_ | with_reducible refine bl_drewN ?_ _))⟩
      | false =>
        have HE2 := hide (HE.out.trans (if_neg Bool.false_ne_true))
        go_enter Try.func94, Try.ntmps94
        go_wp2_with (first | (go_at_call 12; refine (HO.out _).mono ?_; rintro e w' ⟨rfl, rfl⟩) | (go_at_call 66; refine (HCO.out _ ?hbw).mono ?_; (case hbw => exact (by repeat (first | with_reducible exact Below.refl _ _ | with_reducible refine bl_plus ?_ | with_reducible refine bl_alloc ?_ _ | with_reducible refine bl_drew ?_ | with_reducible refine bl_drewN ?_ _))); rintro e w' ⟨rfl, hbl⟩; obtain ⟨os1, n1, rfl⟩ := below_plus hbl; clear hbl))
        go_ret
        exact ⟨ret_int HE2.out.symm, (by repeat (first | with_reducible exact Below.refl _ _ | with_reducible refine bl_plus ?_ | with_reducible refine bl_alloc ?_ _ | with_reducible refine bl_drew ?_ | with_reducible refine bl_drewN ?_ _))⟩
    · have i1 : (k != 3) = true := by simpa using hk3
      have i2 : ((ws.length : Int) != 1) = false := by rw [bne_eq_false_iff_eq]; omega
      clear h1
      cases R with
      | true =>
        have HE2 := hide (HE.out.trans (if_pos rfl))
        go_enter Try.func94, Try.ntmps94
        go_wp2_with (first | (go_at_call 12; refine (HO.out _).mono ?_; rintro e w' ⟨rfl, rfl⟩) | (go_at_call 66; refine (HCO.out _ ?hbw).mono ?_; (case hbw => exact (by repeat (first | with_reducible exact Below.refl _ _ | with_reducible refine bl_plus ?_ | with_reducible refine bl_alloc ?_ _ | with_reducible refine bl_drew ?_ | with_reducible refine bl_drewN ?_ _))); rintro e w' ⟨rfl, hbl⟩; obtain ⟨os1, n1, rfl⟩ := below_plus hbl; clear hbl))
        go_ret
        exact ⟨ret_int HE2.out.symm, (by repeat (first | with_reducible exact Below.refl _ _ | with_reducible refine bl_plus ?_ | with_reducible refine bl_alloc ?_ _ | with_reducible refine bl_drew ?_ | with_reducible refine bl_drewN ?_ _))⟩
      | false =>
        have HE2 := hide (HE.out.trans (if_neg Bool.false_ne_true))
        go_enter Try.func94, Try.ntmps94
        go_wp2_with (first | (go_at_call 12; refine (HO.out _).mono ?_; rintro e w' ⟨rfl, rfl⟩) | (go_at_call 66; refine (HCO.out _ ?hbw).mono ?_; (case hbw => exact (by repeat (first | with_reducible exact Below.refl _ _ | with_reducible refine bl_plus ?_ | with_reducible refine bl_alloc ?_ _ | with_reducible refine bl_drew ?_ | with_reducible refine bl_drewN ?_ _))); rintro e w' ⟨rfl, hbl⟩; obtain ⟨os1, n1, rfl⟩ := below_plus hbl; clear hbl))
        go_ret
        exact ⟨ret_int HE2.out.symm, (by repeat (first | with_reducible exact Below.refl _ _ | with_reducible refine bl_plus ?_ | with_reducible refine bl_alloc ?_ _ | with_reducible refine bl_drew ?_ | with_reducible refine bl_drewN ?_ _))⟩

end Go.Proofs.Ytfnooipkghfmoaa
