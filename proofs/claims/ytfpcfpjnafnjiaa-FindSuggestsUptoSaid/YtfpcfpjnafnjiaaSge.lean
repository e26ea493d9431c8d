/-
  WALKS: ContainsFunc at ints over any function; the closure that asks whether a number lies outside.
-/
import Derived.Test.YtfpcfpjnafnjiaaSgd
import Derived.Test.YtfpcfpjnafnjiaaOwnG
import Derived.Test.YtfpcfpjnafnjiaaOwnB
set_option linter.all false
namespace Go.Proofs.Ytfpcfpjnafnjiaa
open Go.RowKit Go.Lib

/-- What IndexFunc says: the first place at which the function says yes, or -1. -/
def IdxIsI (P : Int → Bool) (ss : List Int) (r : Int) : Prop := (∃ k : Nat, ∃ h : k < ss.length, r = k ∧ P ss[k] = true) ∨ (r = -1 ∧ ∀ x ∈ ss, P x = false)
def IdxOutI (P : Int → Bool) (ss : List Int) (w : World) (e : Ending) (w' : World) : Prop := ∃ r : Int, e = .returned (.int .i64 r) ∧ IdxIsI P ss r ∧ Below w.heap.size w w'

set_option maxHeartbeats 3200000 in
set_option maxRecDepth 100000 in
theorem indexFnI_any (fid : FuncId) (cb : Array Value) (P : Int → Bool) (A : Option Addr) (c : Nat) (ss : List Int) (w : World) (hA : NsAt w A ss) (ent : ∀ args w, (callFunc fid args).run Try.prog w = .ok (.enter fid args) w)
    (hF : ∀ x ∈ ss, ∀ W, Below w.heap.size w W → Calls Try.prog fid (#[.int .i64 x] ++ cb) W fun e w' => e = .returned (.bool (P x)) ∧ Below W.heap.size W w') :
    Calls Try.prog 51 #[.slice A ss.length c, .func (.func fid) #[] cb] w (IdxOutI P ss w) := by
  have hm := hA.1
  unfold maxLen at hm
  have HPO := hide (show ∀ (r : Int) w', IdxIsI P ss r → Below w.heap.size w w' → IdxOutI P ss w (.returned (.int .i64 r)) w' from fun r w' h1 h2 => ⟨r, rfl, h1, h2⟩)
  generalize IdxOutI P ss w = PO at *
  have HA := hide hA
  have HF := hide hF
  clear hA hF
  go_enter Try.func51, Try.ntmps51
  go_wp2
  go_loopw [8] (fun i wr => ∃ (k : Nat) (os : Array Obj) (n : Nat), k ≤ ss.length ∧ i = .int .i64 k ∧ wr = plus w os n ∧ Hid (∀ j (h : j < ss.length), j < k → P ss[j] = false)) (fun i _ => ss.length - (RowKit.intOf i).toNat)
  case atStart => exact ⟨0, #[], _, Nat.zero_le _, rfl, plus_nil.symm, hide (fun j h hj => by omega)⟩
  case round =>
    obtain ⟨k, os, n, hk, rfl, rfl, HN⟩ := hrel
    by_cases hlt : k < ss.length
    · obtain ⟨b, o, rfl, hb, hv⟩ := HA.out.2 (by omega)
      have c0 := hv k hlt
      have HC := hide (fun W hbw => HF.out ss[k] (List.getElem_mem hlt) W hbw)
      have HY := hide (fun (h : P ss[k] = true) => (.inl ⟨k, hlt, rfl, h⟩ : IdxIsI P ss k))
      have HNX := hide (fun (h : P ss[k] = false) j (hj : j < ss.length) (hjk : j < k + 1) => (by
        rcases Nat.lt_or_ge j k with g | g
        · exact HN.out j hj g
        · obtain rfl : j = k := by omega
          exact h : P ss[j] = false))
      clear hv HF HA HN
      generalize ss[k] = x at *
      cases hB : P x with
      | true =>
        rw [hB] at HC HY
        have HR := hide (HY.out rfl)
        clear HNX HY hB
        go_wp2_with (go_at_fn fid; refine (HC.out _ ?hbw).mono ?_; (case hbw => exact (by repeat (first | with_reducible exact Below.refl _ _ | with_reducible refine bl_plus ?_ | with_reducible refine bl_alloc ?_ _ | with_reducible refine bl_drew ?_ | with_reducible refine bl_drewN ?_ _))); rintro e w' ⟨rfl, hbl⟩; obtain ⟨os1, n1, rfl⟩ := below_plus hbl; clear hbl)
        exact HPO.out _ _ HR.out (by repeat (first | with_reducible exact Below.refl _ _ | with_reducible refine bl_plus ?_ | with_reducible refine bl_alloc ?_ _ | with_reducible refine bl_drew ?_ | with_reducible refine bl_drewN ?_ _))
      | false =>
        rw [hB] at HC HNX
        have HR := hide (HNX.out rfl)
        clear HNX HY hB
        go_wp2_with (go_at_fn fid; refine (HC.out _ ?hbw).mono ?_; (case hbw => exact (by repeat (first | with_reducible exact Below.refl _ _ | with_reducible refine bl_plus ?_ | with_reducible refine bl_alloc ?_ _ | with_reducible refine bl_drew ?_ | with_reducible refine bl_drewN ?_ _))); rintro e w' ⟨rfl, hbl⟩; obtain ⟨os1, n1, rfl⟩ := below_plus hbl; clear hbl)
        go_roundw
        case rel => exact ⟨k + 1, _, _, hlt, by go_num, by first | rfl | (simp only [plus_alloc, plus_plus, pl_drewN, plus_drew]; rfl), HR⟩
        case measure => simp [RowKit.intOf]; omega
    · obtain rfl : k = ss.length := by omega
      have HR := hide (show IdxIsI P ss (-1) from .inr ⟨rfl, fun x hx => by
        obtain ⟨j, hj, rfl⟩ := List.mem_iff_getElem.1 hx
        exact HN.out j hj hj⟩)
      clear HF HA HN
      go_wp2
      exact HPO.out _ _ HR.out (by repeat (first | with_reducible exact Below.refl _ _ | with_reducible refine bl_plus ?_ | with_reducible refine bl_alloc ?_ _ | with_reducible refine bl_drew ?_ | with_reducible refine bl_drewN ?_ _))

set_option maxHeartbeats 1600000 in
theorem containsFnI_any (fid : FuncId) (cb : Array Value) (P : Int → Bool) (A : Option Addr) (c : Nat) (ss : List Int) (w : World) (hA : NsAt w A ss) (ent : ∀ args w, (callFunc fid args).run Try.prog w = .ok (.enter fid args) w)
    (hF : ∀ x ∈ ss, ∀ W, Below w.heap.size w W → Calls Try.prog fid (#[.int .i64 x] ++ cb) W fun e w' => e = .returned (.bool (P x)) ∧ Below W.heap.size W w') :
    Calls Try.prog 39 #[.slice A ss.length c, .func (.func fid) #[] cb] w fun e w' => e = .returned (.bool (ss.any P)) ∧ Below w.heap.size w w' := by
  have HI := hide (indexFnI_any fid cb P A c ss w hA ent hF)
  unfold IdxOutI at HI
  have hdec : ∀ r, IdxIsI P ss r → decide (0 ≤ r) = ss.any P := by
    intro r h
    rcases h with ⟨k, hk, rfl, hp⟩ | ⟨rfl, hp⟩
    · rw [decide_eq_true (by omega)]
      exact (List.any_eq_true.2 ⟨_, List.getElem_mem hk, hp⟩).symm
    · rw [decide_eq_false (by omega)]
      symm
      rw [List.any_eq_false]
      intro x hx
      rw [hp x hx]
      decide
  have HD := hide hdec
  generalize ss.any P = R at *
  clear hA hF hdec
  go_enter Try.func39, Try.ntmps39
  go_wp2_with (go_at_call 51; (with_reducible refine HI.out.mono ?_); rintro e w' ⟨r, rfl, hr, hbl⟩; have HR := hide (HD.out r hr); obtain ⟨os1, n1, rfl⟩ := below_plus hbl; clear hbl hr)
  go_ret
  exact ⟨ret_bool HR.out, (by repeat (first | with_reducible exact Below.refl _ _ | with_reducible refine bl_plus ?_ | with_reducible refine bl_alloc ?_ _ | with_reducible refine bl_drew ?_ | with_reducible refine bl_drewN ?_ _))⟩

set_option maxHeartbeats 800000 in
theorem farFn_any (n sz : Int) (g : Nat) (w : World) (hg : w.cell? ⟨g, 0, none⟩ = some (.int .i64 sz)) (hl : g < w.heap.size) :
    Calls Try.prog 40 #[.int .i64 n, .pointer (some ⟨g, 0, none⟩)] w fun e w' => e = .returned (.bool (decide (n < 0 ∨ sz ≤ n))) ∧ Below w.heap.size w w' := by
  by_cases h1 : n < 0
  · rw [decide_eq_true (.inl h1)]
    go_enter Try.func40, Try.ntmps40
    go_wp2
    go_ret
    exact ⟨rfl, (by repeat (first | with_reducible exact Below.refl _ _ | with_reducible refine bl_plus ?_ | with_reducible refine bl_alloc ?_ _ | with_reducible refine bl_drew ?_ | with_reducible refine bl_drewN ?_ _))⟩
  · by_cases h2 : sz ≤ n
    · rw [decide_eq_true (.inr h2)]
      go_enter Try.func40, Try.ntmps40
      go_wp2
      go_ret
      exact ⟨rfl, (by repeat (first | with_reducible exact Below.refl _ _ | with_reducible refine bl_plus ?_ | with_reducible refine bl_alloc ?_ _ | with_reducible refine bl_drew ?_ | with_reducible refine bl_drewN ?_ _))⟩
    · rw [decide_eq_false (fun h => h.elim h1 h2)]
      go_enter Try.func40, Try.ntmps40
      go_wp2
      go_ret
      exact ⟨rfl, (by repeat (first | with_reducible exact Below.refl _ _ | with_reducible refine bl_plus ?_ | with_reducible refine bl_alloc ?_ _ | with_reducible refine bl_drew ?_ | with_reducible refine bl_drewN ?_ _))⟩

end Go.Proofs.Ytfpcfpjnafnjiaa
