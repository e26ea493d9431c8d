/-
  WALKS: the text of a part; how many parts a query has.
-/
import Derived.Test.YtfnooipkghfmoaaSnb
set_option linter.all false
namespace Go.Proofs.Ytfnooipkghfmoaa
open Go.RowKit Go.Lib

theorem bb_app (a b : List UInt8) : (⟨a.toArray⟩ : ByteArray) ++ ⟨b.toArray⟩ = ⟨(a ++ b).toArray⟩ := by
  apply ByteArray.ext
  rw [ByteArray.data_append]
  simp
theorem bb_self (s : ByteArray) : s = ⟨s.data.toList.toArray⟩ := by
  apply ByteArray.ext
  simp
theorem joinTail_le {sep : List UInt8} {M : Nat} : ∀ {r : List (List UInt8)}, (∀ x ∈ r, x.length ≤ M) → (joinTail sep r).length ≤ r.length * (M + sep.length)
  | [], _ => by simp [joinTail]
  | x :: r, h => by
    have ih := joinTail_le (sep := sep) (r := r) (fun y hy => h y (List.mem_cons_of_mem _ hy))
    have hx := h x List.mem_cons_self
    have e : (joinTail sep (x :: r)).length = sep.length + x.length + (joinTail sep r).length := by
      simp [joinTail]
      omega
    rw [e, List.length_cons, Nat.add_mul, Nat.one_mul]
    omega
theorem join_le {sep : List UInt8} {M : Nat} : ∀ {l : List (List UInt8)}, (∀ x ∈ l, x.length ≤ M) → (join l sep).length ≤ l.length * (M + sep.length)
  | [], _ => by simp [join_nil]
  | x :: r, h => by
    have ih := joinTail_le (sep := sep) (r := r) (fun y hy => h y (List.mem_cons_of_mem _ hy))
    have hx := h x List.mem_cons_self
    rw [join_cons, List.length_append, List.length_cons, Nat.add_mul, Nat.one_mul]
    omega
theorem Pq.of_ok {p : Pq} (h : p.err = 0) : 0 ≤ p.k ∧ p.k ≤ 3 ∧ p.ws.length ≠ 0 ∧ (p.k ≠ 3 → p.ws.length = 1) ∧ ∀ x ∈ p.ws, isWordS x = true := by
  rcases p.err_cases with ⟨_, e⟩ | ⟨hk, ⟨_, e⟩ | ⟨_, _, _, e⟩ | ⟨h0, h1, e⟩⟩
  · rw [h] at e; cases e
  · rw [h] at e; cases e
  · rw [h] at e; cases e
  · refine ⟨hk.1, hk.2, h0, fun h3 => by omega, fun x hx => ?_⟩
    rw [h] at e
    split at e
    · cases e
    · rename_i hn
      cases hw : isWordS x with
      | true => rfl
      | false => exact absurd (List.any_eq_true.2 ⟨x, hx, by rw [hw]; rfl⟩) hn
theorem Pq.txt_le {p : Pq} (h : p.err = 0) (hn : p.ws.length ≤ 1048576) : p.txt.length ≤ 40000000 := by
  obtain ⟨_, _, _, _, hw⟩ := Pq.of_ok h
  have hj : (join (p.ws.map (fun y : ByteArray => y.data.toList)) [32]).length ≤ (p.ws.map (fun y : ByteArray => y.data.toList)).length * (30 + 1) := join_le (M := 30) (sep := [32]) (fun x hx => by
    obtain ⟨y, hy, rfl⟩ := List.mem_map.1 hx
    have := isWordS_size (hw y hy)
    rw [← Lib.size_eq]
    exact this)
  rw [List.length_map] at hj
  unfold Pq.txt
  split
  · simp only [List.length_cons, List.length_append, List.length_nil]
    omega
  · rw [List.length_append]
    split
    · simp only [List.length_cons, List.length_nil]; omega
    · split <;> simp only [List.length_cons, List.length_nil] <;> omega

theorem ix0 (w : World) : (Instr.index 192 (.agg #[.string ⟨#[]⟩, .string ⟨#[42]⟩, .string ⟨#[126]⟩]) (.int .i64 0)).run Try.prog w = .ok (.string ⟨#[]⟩) w := by kernel_rfl
theorem ix1 (w : World) : (Instr.index 192 (.agg #[.string ⟨#[]⟩, .string ⟨#[42]⟩, .string ⟨#[126]⟩]) (.int .i64 1)).run Try.prog w = .ok (.string ⟨#[42]⟩) w := by kernel_rfl
theorem ix2 (w : World) : (Instr.index 192 (.agg #[.string ⟨#[]⟩, .string ⟨#[42]⟩, .string ⟨#[126]⟩]) (.int .i64 2)).run Try.prog w = .ok (.string ⟨#[126]⟩) w := by kernel_rfl
attribute [local go_sem ↓] ix0 ix1 ix2

set_option maxHeartbeats 1600000 in
set_option maxRecDepth 100000 in
theorem partText_any (p : Pq) (A : Option Addr) (c : Nat) (w : World) (hA : SsAt w A p.ws) (hc : p.ws.length ≤ c) (hn : p.ws.length ≤ 1048576) (hok : p.err = 0) :
    Calls Try.prog 95 #[.agg #[.int .i64 p.k, .slice A p.ws.length c]] w fun e w' => e = .returned (.string ⟨p.txt.toArray⟩) ∧ Below w.heap.size w w' := by
  obtain ⟨k0, k3, h0, h1, hw⟩ := Pq.of_ok hok
  have htx := Pq.txt_le hok hn
  obtain ⟨k, ws⟩ := p
  simp only at k0 k3 h0 h1 hw hn hc hA ⊢
  obtain ⟨b, o, rfl, hb, hv⟩ := hA.2 (by omega)
  by_cases hk : k = 3
  · subst hk
    have e : Pq.txt ⟨3, ws⟩ = ([34] : List UInt8) ++ join (ws.map (fun y : ByteArray => y.data.toList)) [32] ++ [34] := rfl
    rw [e] at htx ⊢
    have hlj : (join (ws.map (fun y : ByteArray => y.data.toList)) [32]).length ≤ 40000000 := by simp only [List.length_append] at htx; omega
    have HJ := hide (fun W (hbw : Below w.heap.size w W) => Try.join_any b o c ws ⟨#[32]⟩ W (fun j x hx => by
      obtain ⟨hj, rfl⟩ := List.getElem?_eq_some_iff.1 hx
      exact (hbw.cell (p := ⟨b, o + j, none⟩) hb).trans (hv j hj)) (Nat.lt_of_lt_of_le hb hbw.size) (by omega) hc (by
        show (join (ws.map (fun y : ByteArray => y.data.toList)) [32]).length ≤ _
        omega))
    have hjd : (⟨#[32]⟩ : ByteArray).data.toList = [32] := rfl
    rw [hjd] at HJ
    have hsz : (⟨(join (ws.map (fun y : ByteArray => y.data.toList)) [32]).toArray⟩ : ByteArray).size ≤ 40000000 := by
      show (List.toArray _).size ≤ _
      rw [List.size_toArray]
      exact hlj
    have hres : (⟨#[34]⟩ : ByteArray) ++ ⟨(join (ws.map (fun y : ByteArray => y.data.toList)) [32]).toArray⟩ ++ ⟨#[34]⟩ = ⟨(([34] : List UInt8) ++ join (ws.map (fun y : ByteArray => y.data.toList)) [32] ++ [34]).toArray⟩ := by
      rw [show (⟨#[34]⟩ : ByteArray) = ⟨[34].toArray⟩ from rfl, bb_app, bb_app]
    rw [← hres]
    clear hres htx hlj e hv hA hw h0 h1
    generalize (⟨(join (ws.map (fun y : ByteArray => y.data.toList)) [32]).toArray⟩ : ByteArray) = S at *
    have i1 : (S.size : Int) ≤ 40000000 := by omega
    go_enter Try.func95, Try.ntmps95
    go_wp2_with (go_at_call 69; refine (HJ.out _ ?hbw).mono ?_; (case hbw => exact (by repeat (first | with_reducible exact Below.refl _ _ | with_reducible refine bl_plus ?_ | with_reducible refine bl_alloc ?_ _ | with_reducible refine bl_drew ?_ | with_reducible refine bl_drewN ?_ _))); rintro e w' ⟨rfl, hbl⟩; obtain ⟨os1, n1, rfl⟩ := below_plus hbl; clear hbl)
    go_ret
    exact ⟨rfl, (by repeat (first | with_reducible exact Below.refl _ _ | with_reducible refine bl_plus ?_ | with_reducible refine bl_alloc ?_ _ | with_reducible refine bl_drew ?_ | with_reducible refine bl_drewN ?_ _))⟩
  · have hl1 := h1 hk
    obtain ⟨x, rfl⟩ : ∃ x, ws = [x] := by
      match ws, hl1 with
      | [x], _ => exact ⟨x, rfl⟩
    have hx := isWordS_size (hw x List.mem_cons_self)
    have c0 := hv 0 (by simp)
    simp only [List.getElem_cons_zero, Nat.add_zero] at c0
    have i1 : (x.size : Int) ≤ 30 := by omega
    have hk3 : k = 0 ∨ k = 1 ∨ k = 2 := by omega
    have hjd : join ([x].map (fun y : ByteArray => y.data.toList)) [32] = x.data.toList := by simp [join_one]
    have j3 : (k == 3) = false := beq_eq_false_iff_ne.2 hk
    simp only [List.length_cons, List.length_nil, Nat.zero_add]
    clear hv hA hw h0 h1 hl1 htx hn hok hk j3 hc
    rcases hk3 with rfl | rfl | rfl
    · have hres : x ++ (⟨#[]⟩ : ByteArray) = ⟨(Pq.txt ⟨0, [x]⟩).toArray⟩ := by
        conv => lhs; rw [bb_self x, show (⟨#[]⟩ : ByteArray) = ⟨[].toArray⟩ from rfl, bb_app]
        unfold Pq.txt
        rw [hjd]
        rfl
      rw [← hres]
      clear hres hjd
      go_enter Try.func95, Try.ntmps95
      go_wp2_with fail
      go_quiet (fail)
      go_wp2
      go_ret
      exact ⟨rfl, (by repeat (first | with_reducible exact Below.refl _ _ | with_reducible refine bl_plus ?_ | with_reducible refine bl_alloc ?_ _ | with_reducible refine bl_drew ?_ | with_reducible refine bl_drewN ?_ _))⟩
    · have hres : x ++ (⟨#[42]⟩ : ByteArray) = ⟨(Pq.txt ⟨1, [x]⟩).toArray⟩ := by
        conv => lhs; rw [bb_self x, show (⟨#[42]⟩ : ByteArray) = ⟨[42].toArray⟩ from rfl, bb_app]
        unfold Pq.txt
        rw [hjd]
        rfl
      rw [← hres]
      clear hres hjd
      go_enter Try.func95, Try.ntmps95
      go_wp2_with fail
      go_quiet (fail)
      go_wp2
      go_ret
      exact ⟨rfl, (by repeat (first | with_reducible exact Below.refl _ _ | with_reducible refine bl_plus ?_ | with_reducible refine bl_alloc ?_ _ | with_reducible refine bl_drew ?_ | with_reducible refine bl_drewN ?_ _))⟩
    · have hres : x ++ (⟨#[126]⟩ : ByteArray) = ⟨(Pq.txt ⟨2, [x]⟩).toArray⟩ := by
        conv => lhs; rw [bb_self x, show (⟨#[126]⟩ : ByteArray) = ⟨[126].toArray⟩ from rfl, bb_app]
        unfold Pq.txt
        rw [hjd]
        rfl
      rw [← hres]
      clear hres hjd
      go_enter Try.func95, Try.ntmps95
      go_wp2_with fail
      go_quiet (fail)
      go_wp2
      go_ret
      exact ⟨rfl, (by repeat (first | with_reducible exact Below.refl _ _ | with_reducible refine bl_plus ?_ | with_reducible refine bl_alloc ?_ _ | with_reducible refine bl_drew ?_ | with_reducible refine bl_drewN ?_ _))⟩

set_option maxHeartbeats 1600000 in
set_option maxRecDepth 100000 in
theorem parts_any (cs : List Cq) (A : Option Addr) (c : Nat) (w : World) (hA : CqsAt w A cs) (hn : nParts cs ≤ 1048576) :
    Calls Try.prog 93 #[.agg #[.slice A cs.length c]] w fun e w' => e = .returned (.int .i64 (nParts cs)) ∧ Below w.heap.size w w' := by
  have hm := hA.1
  unfold maxLen at hm
  have HA := hide hA
  clear hA
  go_enter Try.func93, Try.ntmps93
  go_wp2
  go_loopw [3, 9] (fun s i wr => ∃ (k : Nat) (os : Array Obj) (n : Nat), k ≤ cs.length ∧ s = .int .i64 (nParts (cs.take k)) ∧ i = .int .i64 k ∧ wr = plus (w.alloc (.cells #[.slice A cs.length c] 24)) os n) (fun _ i _ => cs.length - (RowKit.intOf i).toNat)
  case atStart => exact ⟨0, #[], _, Nat.zero_le _, rfl, rfl, plus_nil.symm⟩
  case round =>
    obtain ⟨k, os, n, hk, rfl, rfl, rfl⟩ := hrel
    by_cases hlt : k < cs.length
    · obtain ⟨b, o, rfl, hb, hv⟩ := HA.out.2 (by omega)
      obtain ⟨c0, A2, cap, c1, hP⟩ := hv k hlt
      have h1 := nParts_snoc (cs.take k) cs[k]
      rw [← List.take_succ_eq_append_getElem hlt] at h1
      have h2 := nParts_take cs k
      have h3 := nParts_at hlt
      clear hv hP
      generalize nParts (cs.take k) = N at *
      generalize cs[k] = x at *
      obtain ⟨neg, ps⟩ := x
      simp only at c0 c1 h1 h3
      go_wp2
      go_roundw
      case rel => exact ⟨k + 1, _, _, hlt, by rw [h1]; go_num, by go_num, by first | rfl | (simp only [plus_alloc, plus_plus, pl_drewN, plus_drew]; rfl)⟩
      case measure => simp [RowKit.intOf]; omega
    · obtain rfl : k = cs.length := by omega
      rw [List.take_length]
      clear HA
      go_wp2
      go_ret
      exact ⟨rfl, (by repeat (first | with_reducible exact Below.refl _ _ | with_reducible refine bl_plus ?_ | with_reducible refine bl_alloc ?_ _ | with_reducible refine bl_drew ?_ | with_reducible refine bl_drewN ?_ _))⟩

end Go.Proofs.Ytfnooipkghfmoaa
