/-
  WALKS: slices.IndexFunc at string, any function.
-/
import Derived.Test.YtafgfldcbdkccaaGreatDoorFtb
import Derived.Test.YtafgfldcbdkccaaGreatDoorOwnM
import Derived.Test.YtafgfldcbdkccaaGreatDoorOwnG
import Derived.Lib.SliceRun
import Derived.Lib.BufferOwn
import Derived.Laws.IdiomCopy
import Derived.Deep.DeepCutAuto
set_option linter.all false
namespace Go.Proofs.YtafgfldcbdkccaaGreatDoor
open Go.RowKit Go.Lib

/-- What IndexFunc says: the first place at which the function says yes, or -1. -/
def FstP (d : (ByteArray) → Bool) (l : List (ByteArray)) (r : Int) : Prop := (∃ k : Nat, ∃ h : k < l.length, r = k ∧ d l[k] = true ∧ ∀ j (hj : j < l.length), j < k → d l[j] = false) ∨ (r = -1 ∧ ∀ j (hj : j < l.length), d l[j] = false)

def FstOutP (d : (ByteArray) → Bool) (l : List (ByteArray)) (w : World) (e : Ending) (w' : World) : Prop := ∃ r : Int, e = .returned (.int .i64 r) ∧ FstP d l r ∧ Below w.heap.size w w'

/-- The elements of a slice. -/
def RdP (w : World) (A : Option Addr) (l : List (ByteArray)) : Prop := 0 < l.length → ∃ b o, A = some ⟨b, o, none⟩ ∧ b < w.heap.size ∧ ∀ j (h : j < l.length), w.cell? ⟨b, o + j, none⟩ = some (Value.string l[j])

set_option maxHeartbeats 3200000 in
set_option maxRecDepth 100000 in
theorem indexP_any (fid : FuncId) (gq : Nat) (d : (ByteArray) → Bool) (A : Option Addr) (c : Nat) (l : List (ByteArray)) (w : World) (hA : RdP w A l) (hm : l.length ≤ 2000000) (ent : ∀ args w, (callFunc fid args).run Tryz.prog w = .ok (.enter fid args) w)
    (hF : ∀ x ∈ l, ∀ W, Below w.heap.size w W → Calls Tryz.prog fid #[Value.string x, .pointer (some ⟨gq, 0, none⟩)] W fun e w' => e = .returned (.bool (d x)) ∧ Below W.heap.size W w') :
    Calls Tryz.prog 44 #[.slice A l.length c, .func (.func fid) #[] #[.pointer (some ⟨gq, 0, none⟩)]] w (FstOutP d l w) := by
  have HPO := hide (show ∀ (r : Int) w', FstP d l r → Below w.heap.size w w' → FstOutP d l w (.returned (.int .i64 r)) w' from fun r w' h1 h2 => ⟨r, rfl, h1, h2⟩)
  generalize FstOutP d l w = PO at *
  have HA := hide hA
  have HF := hide hF
  clear hA hF
  go_enter Tryz.func44, Tryz.ntmps44
  go_wp2
  go_loopw [8] (fun i wr => ∃ (k : Nat) (os : Array Obj) (n : Nat), k ≤ l.length ∧ i = .int .i64 k ∧ wr = plus w os n ∧ Hid (∀ j (h : j < l.length), j < k → d l[j] = false)) (fun i _ => l.length - (RowKit.intOf i).toNat)
  case atStart => exact ⟨0, #[], _, Nat.zero_le _, rfl, plus_nil.symm, hide (fun j h hj => by omega)⟩
  case round =>
    obtain ⟨k, os, n, hk, rfl, rfl, HN⟩ := hrel
    by_cases hlt : k < l.length
    · obtain ⟨b, o, rfl, hb, hv⟩ := HA.out (by omega)
      have c0 := hv k hlt
      have HC := hide (fun W hbw => HF.out l[k] (List.getElem_mem hlt) W hbw)
      have HY := hide (fun (h : d l[k] = true) => (show FstP d l k from .inl ⟨k, hlt, rfl, h, HN.out⟩))
      have HNX := hide (fun (h : d l[k] = false) j (hj : j < l.length) (hjk : j < k + 1) => (by
        rcases Nat.lt_or_ge j k with g | g
        · exact HN.out j hj g
        · obtain rfl : j = k := by omega
          exact h : d l[j] = false))
      have i1 : (k : Int) < (l.length : Int) := by omega
      clear hv HF HA HN
      generalize l[k] = x at *
      generalize d x = B at *
      cases B with
      | true =>
        have HR := hide (HY.out rfl)
        clear HNX HY
        go_wp2
        refine (HC.out _ ?hbw).mono ?_
        case hbw => exact (by repeat (first | with_reducible exact Below.refl _ _ | with_reducible refine bl_plus ?_ | with_reducible refine bl_alloc ?_ _ | with_reducible refine bl_drew ?_ | with_reducible refine bl_drewN ?_ _))
        rintro e w' ⟨rfl, hbl⟩
        obtain ⟨os1, n1, rfl⟩ := below_plus hbl
        clear hbl
        go_wp2
        exact HPO.out _ _ HR.out (by repeat (first | with_reducible exact Below.refl _ _ | with_reducible refine bl_plus ?_ | with_reducible refine bl_alloc ?_ _ | with_reducible refine bl_drew ?_ | with_reducible refine bl_drewN ?_ _))
      | false =>
        have HR := hide (HNX.out rfl)
        clear HNX HY
        go_wp2
        refine (HC.out _ ?hbw).mono ?_
        case hbw => exact (by repeat (first | with_reducible exact Below.refl _ _ | with_reducible refine bl_plus ?_ | with_reducible refine bl_alloc ?_ _ | with_reducible refine bl_drew ?_ | with_reducible refine bl_drewN ?_ _))
        rintro e w' ⟨rfl, hbl⟩
        obtain ⟨os1, n1, rfl⟩ := below_plus hbl
        clear hbl
        go_wp2
        go_roundw
        case rel => exact ⟨k + 1, _, _, hlt, by go_num, by first | rfl | (simp only [plus_alloc, plus_plus, plus_drew]; rfl), HR⟩
        case measure => simp [RowKit.intOf]; omega
    · obtain rfl : k = l.length := by omega
      have HR := hide (show FstP d l (-1) from .inr ⟨rfl, fun j hj => HN.out j hj hj⟩)
      clear HF HA HN
      go_wp2
      exact HPO.out _ _ HR.out (by repeat (first | with_reducible exact Below.refl _ _ | with_reducible refine bl_plus ?_ | with_reducible refine bl_alloc ?_ _ | with_reducible refine bl_drew ?_ | with_reducible refine bl_drewN ?_ _))

end Go.Proofs.YtafgfldcbdkccaaGreatDoor
